/- Walks: the reference's Makespan and CriticalPath. -/
import Derived.Test.YtinengemeppefaaSchR1
namespace Go.Proofs.Ytinengemeppefaa
open Go.RowKit

set_option maxHeartbeats 1000000 in
theorem rmakespan31_any (A : Option Addr) (cp : Nat) (sl : List RSl) (w : World) (hr : Row w A (rcells sl)) (hm : sl.length ≤ 4096) :
    Calls Try.prog 22 #[.slice A sl.length cp] w fun e w' => e = .returned (.int .u64 (mkR sl : Int)) ∧ Fr [] w w' := by
  have HR := hide hr
  clear hr
  go_enter Try.func22, Try.ntmps22
  go_wp2
  go_loopg [3, 4] sl.length (fun m v i wr => MkRel w sl m v i wr)
  case atStart => exact ⟨0, by omega, rfl, rfl, Fr.refl _ _, rfl⟩
  case round =>
    obtain ⟨k, hk, rfl, rfl, hfr, hmm⟩ := hrel
    have HM := hide hmm
    clear hmm
    by_cases hlt : k < sl.length
    · obtain ⟨x, hx⟩ : ∃ x, sl[k]? = some x := ⟨_, List.getElem?_eq_getElem hlt⟩
      obtain ⟨ob, oo, rfl, c0, c1, c2, c3⟩ := (HR.out.fr0 hfr).slot hx
      have hkl : (k : Int) < (sl.length : Int) := by omega
      have HX := hide (mkR_snoc (sl.take k) x)
      rw [← take_succ_some hx] at HX
      clear hx
      generalize mkR (sl.take k) = t at HX ⊢
      obtain ⟨d, wk, s, e⟩ := x
      simp only at c0 c1 c2 c3 HX
      by_cases hle : t < e
      · have hle' : (t : Int) < (e : Int) := by omega
        have hmx : max t e = e := by omega
        rw [hmx] at HX
        clear hmx hle
        go_wp2
        go_roundg (sl.length - (k + 1))
        case measure => rw [HM.out]; omega
        case rel => exact ⟨k + 1, by omega, by rw [HX.out], by go_num, hfr, rfl⟩
      · have hle' : ¬ (t : Int) < (e : Int) := by omega
        have hmx : max t e = t := by omega
        rw [hmx] at HX
        clear hmx hle
        go_wp2
        go_roundg (sl.length - (k + 1))
        case measure => rw [HM.out]; omega
        case rel => exact ⟨k + 1, by omega, by rw [HX.out], by go_num, hfr, rfl⟩
    · have hkl : ¬ (k : Int) < (sl.length : Int) := by omega
      rw [List.take_of_length_le (by omega)]
      go_wp2
      go_ret
      exact ⟨rfl, hfr⟩
theorem nb_take_succ' {L : List (Nat × Nat)} {j : Nat} {q : Nat × Nat} (h : L[j]? = some q) (f : Nat → Nat) (d : Nat) : fmax f (nb false (L.take (j + 1)) d) = if q.1 = d then max (fmax f (nb false (L.take j) d)) (f q.2) else fmax f (nb false (L.take j) d) := by
  rw [take_succ_some h, nb_snoc]
  by_cases e : q.1 = d
  · simp [ends, e, fmax_snoc]
  · simp [ends, e]
def RcRel1 (w1 : World) (g n : Nat) (L : List (Nat × Nat)) (D : Nat → Nat) (o : List Nat) (m : Nat) (v i : Value) (wr : World) : Prop :=
  ∃ k : Nat, k ≤ n ∧ v = .int .u64 (cpM L D (o.take k) : Int) ∧ i = .int .i64 k ∧ FA wr g 33 uv n (pathM L D (o.take k)) ∧ Fr [] w1 wr ∧ m = n - k
def RcRel2 (w1 : World) (L : List (Nat × Nat)) (f : Nat → Nat) (d m : Nat) (v i : Value) (wr : World) : Prop := ∃ j : Nat, j ≤ L.length ∧ v = .int .u64 (fmax f (nb false (L.take j) d) : Int) ∧ i = .int .i64 j ∧ w1 = wr ∧ m = L.length - j
set_option maxHeartbeats 4000000 in
set_option maxRecDepth 100000 in
theorem rcritical31_any (n : Int) (A B : Option Addr) (cp cq : Nat) (l : List (Int × Int)) (dur : List Nat) (w : World) (hr : Row w A (pcs l)) (hb : Row w B (dur.map uv)) (hm : l.length ≤ 4096) :
    Calls Try.prog 19 #[.int .i64 n, .slice A l.length cp, .slice B dur.length cq] w (CpRet w (cpathM n l dur)) := by
  have HB := hide hb
  have HR := hide hr
  clear hr hb
  go_enter Try.func19, Try.ntmps19
  go_wp2_with fail
  refine (rinput31_any n 0 A B cp cq l dur w HR.out HB.out hm).mono ?_
  rintro e w1 ⟨rfl, hf1⟩
  rw [rinM_cp]
  by_cases hc : chkM n l dur 1 = 0
  · obtain ⟨N, V, rfl, -, hgood⟩ := chkM_good hc
    have HRES := hide (cpathM_ok hc)
    have hN := hgood.nodes
    have hdl := hgood.len
    have HG := hide hgood
    have hll : (toNs l).length = l.length := by simp [toNs]
    have hl1 := hgood.links.2.2.1
    rw [hc]
    clear hc hgood
    go_wp2_with fail
    refine (rorder_any24 N A cp l w1 (HR.out.fr0 hf1) hm).mono ?_
    rintro e w2 ⟨v, rfl, hown, hf2⟩
    have ho := orderM_good HG.out.basic HG.out.full
    have hful := HG.out.full
    have hord := greedy_ord N (toNs l)
    rw [ho] at hown ⊢
    simp only at hown ⊢
    clear ho
    have HLT := hide HG.out.lt
    have hget : ∀ (j : Nat) (q : Nat × Nat), (toNs l)[j]? = some q → l[j]? = some ((q.1 : Int), (q.2 : Int)) := fun j q hq => by
      unfold toNs at hq
      rw [List.getElem?_map] at hq
      cases hlj : l[j]? with
      | none => rw [hlj] at hq; cases hq
      | some p =>
        rw [hlj] at hq
        injection hq with hq
        have hok := HG.out.links.2.2.2 p (List.mem_of_getElem? hlj)
        unfold LinkOk at hok
        rw [← hq]
        simp only [toN]
        congr 1
        exact Prod.ext (by simp only; omega) (by simp only; omega)
    have HGET := hide hget
    generalize toNs l = L at hown hll hful hord HRES HLT HGET ⊢
    generalize greedy N L = o at hown hful hord HRES ⊢
    obtain ⟨A2, c2, rfl, -, hro, -⟩ := own_slice hown
    have HRO := hide hro
    have HORD := hide hord
    have HFUL := hide hful
    have HLL := hide hll
    have hol : o.length ≤ 128 := by omega
    have hmk := make_u64s N N (Nat.le_refl _) (by omega)
    have hnew : FA (w2.alloc (.cells (Array.replicate N (.int .u64 0)) 33)) w2.heap.size 33 uv N (fun _ => 0) := FA.new w2 33 uv 0 N
    have hfr4 : Fr [] w2 (w2.alloc (.cells (Array.replicate N (.int .u64 0)) 33)) := (Fr.refl _ _).alloc _
    have HB3 := hide ((HB.out.fr0 hf1).fr0 hf2)
    have HR3 := hide ((HR.out.fr0 hf1).fr0 hf2)
    clear hown hro hord hful hget hll
    go_wp2
    generalize (w2.alloc (.cells (Array.replicate N (.int .u64 0)) 33)) = w4 at hnew hfr4 ⊢
    obtain ⟨lg, hlg⟩ : ∃ lg, lg = w2.heap.size := ⟨_, rfl⟩
    have hlw : w2.heap.size ≤ lg := by omega
    rw [← hlg] at hnew ⊢
    clear hlg hmk
    go_loopg [12, 13] N (fun m v i wr => RcRel1 w2 lg N L (durF dur) o m v i wr)
    case atStart => exact ⟨0, by omega, by simp [cpM, fmax], rfl, hnew.congr (fun u _ => by simp [pathM]), hfr4, rfl⟩
    case round =>
      clear hnew hfr4
      obtain ⟨k, hk, rfl, rfl, hfa, hfr, hmm⟩ := hrel
      have HM := hide hmm
      have HFA := hide hfa
      clear hmm hfa
      by_cases hlt : k < N
      · obtain ⟨v, hv⟩ : ∃ v, o[k]? = some v := ⟨_, List.getElem?_eq_getElem (by rw [HFUL.out]; exact hlt)⟩
        obtain ⟨ob, oo, e, c1⟩ := (HRO.out.fr0 hfr).at_ (i := k) (u := nv v) (by simp [hv])
        subst e
        have hvN := HORD.out.lt v (List.mem_of_getElem? hv)
        have hkl : (k : Int) < (N : Int) := by omega
        have hkl2 : (k : Int) < (o.length : Int) := by rw [HFUL.out]; omega
        have hvi : (v : Int) < (N : Int) := by omega
        have hvno : v ∉ o.take k := fun h => by
          have hn := HORD.out.nodup
          rw [split_at_some hv, List.nodup_append] at hn
          exact hn.2.2 v h v (by simp) rfl
        have hbd : ∀ u, pathM L (durF dur) (o.take k) u ≤ 1152921504606846976 := fun u => by
          have h1 := path_le (L := L) (B := maxD) HG.out.durF_le (o.take k) u
          have h3 : (o.take k).length ≤ 128 := by rw [List.length_take]; omega
          have h2 : (o.take k).length * maxD ≤ 128 * maxD := Nat.mul_le_mul_right maxD h3
          have h4 : 128 * maxD = 1152921504606846976 := by decide
          rw [h4] at h2
          exact Nat.le_trans h1 h2
        have HSN := hide (pathM_snoc L (durF dur) (o.take k) v)
        have HCP := hide (cpM_snoc (L := L) (D := durF dur) hvno)
        have hcpb : cpM L (durF dur) (o.take k) ≤ 1152921504606846976 := fmax_le fun s _ => hbd s
        rw [← take_succ_some hv] at HSN HCP
        clear hv hvno
        unfold cpV at HSN
        generalize pathM L (durF dur) (o.take k) = f at hbd HFA HSN
        generalize cpM L (durF dur) (o.take k) = big at HCP hcpb ⊢
        have HBD := hide hbd
        clear hbd
        go_wp2
        clear c1
        go_loopg [15, 16] L.length (fun m v' i wq => RcRel2 wr L f v m v' i wq)
        case atStart => exact ⟨0, by omega, by simp [nb, fmax], rfl, rfl, rfl⟩
        case round =>
          obtain ⟨j, hj, rfl, rfl, rfl, hmm⟩ := hrel
          have HM2 := hide hmm
          clear hmm
          have hfx : fmax f (nb false (L.take j) v) ≤ 1152921504606846976 := fmax_le fun s _ => HBD.out s
          by_cases hlt2 : j < L.length
          · obtain ⟨q, hq⟩ : ∃ q, L[j]? = some q := ⟨_, List.getElem?_eq_getElem hlt2⟩
            obtain ⟨ob2, oo2, e, l0, l1⟩ := (HR3.out.fr0 hfr).link (HGET.out j q hq)
            subst e
            have hq2 := (HLT.out q (List.mem_of_getElem? hq)).2
            have hqi : (q.2 : Int) < (N : Int) := by omega
            have hjl : (j : Int) < (l.length : Int) := by have := HLL.out; omega
            have hcell := HFA.out.cell hq2
            have hel := HBD.out q.2
            have HNB := hide (nb_take_succ' hq f v)
            clear hq
            generalize f q.2 = y at hcell hel HNB
            generalize fmax f (nb false (L.take j) v) = t at hfx HNB ⊢
            obtain ⟨qc, qs⟩ := q
            simp only at l0 l1 hq2 hqi hcell HNB
            by_cases e : qc = v
            · subst e
              have eb : ((qc : Int) == (qc : Int)) = true := by simp
              rw [if_pos rfl] at HNB
              by_cases hle : t < y
              · have hle' : (t : Int) < (y : Int) := by omega
                rw [Nat.max_eq_right (by omega)] at HNB
                clear hle
                go_wp2
                go_roundg (L.length - (j + 1))
                case measure => rw [HM2.out]; omega
                case rel => exact ⟨j + 1, by omega, by rw [HNB.out], by go_num, rfl, rfl⟩
              · have hle' : ¬ (t : Int) < (y : Int) := by omega
                rw [Nat.max_eq_left (by omega)] at HNB
                clear hle
                go_wp2
                go_roundg (L.length - (j + 1))
                case measure => rw [HM2.out]; omega
                case rel => exact ⟨j + 1, by omega, by rw [HNB.out], by go_num, rfl, rfl⟩
            · have eb : ((qc : Int) == (v : Int)) = false := by simp; omega
              rw [if_neg e] at HNB
              clear e
              go_wp2
              go_roundg (L.length - (j + 1))
              case measure => rw [HM2.out]; omega
              case rel => exact ⟨j + 1, by omega, by rw [HNB.out], by go_num, rfl, rfl⟩
          · have hjl : ¬ (j : Int) < (l.length : Int) := by have := HLL.out; omega
            rw [List.take_of_length_le (by omega)] at hfx ⊢
            have hvd : v < dur.length := by omega
            obtain ⟨y, hy⟩ : ∃ y, dur[v]? = some y := ⟨_, List.getElem?_eq_getElem hvd⟩
            have hyD : durF dur v = y := by simp [durF, List.getD_eq_getElem?_getD, hy]
            have hyM := HG.out.dur y (List.mem_of_getElem? hy)
            unfold maxD at hyM
            obtain ⟨bb, bo, eB, b1⟩ := (HB3.out.fr0 hfr).uint hy
            subst eB
            have hc1 := HFA.out.cell hvN
            have hc2 := HFA.out.frozen v
            have hvl : (v : Int) < (dur.length : Int) := by omega
            rw [hyD] at HSN
            clear hy hyD
            generalize fmax f (nb false L v) = x at hfx HSN ⊢
            have hcx : cpM L (durF dur) (o.take (k + 1)) = max big (x + y) := by
              have h := HCP.out
              rw [HSN.out] at h
              simpa using h
            have HCX := hide hcx
            have hnow : (x : Int) + (y : Int) ≤ 18446744073709551615 := by omega
            clear hcx HCP
            generalize f v = old at hc1
            by_cases hbig : big < x + y
            · have hbig' : (big : Int) < (x : Int) + (y : Int) := by omega
              rw [Nat.max_eq_right (by omega)] at HCX
              clear hbig
              go_wp2
              go_roundg (N - (k + 1))
              case measure => rw [HM.out]; omega
              case rel =>
                refine ⟨k + 1, by omega, by rw [HCX.out]; rfl, by go_num, ?_, hfr.set (.inr hlw) _, rfl⟩
                refine FA.congr (HFA.out.set_ v (x + y)) (fun t _ => ?_)
                rw [HSN.out]
            · have hbig' : ¬ (big : Int) < (x : Int) + (y : Int) := by omega
              rw [Nat.max_eq_left (by omega)] at HCX
              clear hbig
              go_wp2
              go_roundg (N - (k + 1))
              case measure => rw [HM.out]; omega
              case rel =>
                refine ⟨k + 1, by omega, by rw [HCX.out], by go_num, ?_, hfr.set (.inr hlw) _, rfl⟩
                refine FA.congr (HFA.out.set_ v (x + y)) (fun t _ => ?_)
                rw [HSN.out]
      · have hkl : ¬ (k : Int) < (N : Int) := by omega
        rw [List.take_of_length_le (by rw [HFUL.out]; omega)]
        go_wp2
        go_ret2
        exact ⟨by rw [HRES.out]; rfl, (hf1.call hf2).call hfr⟩
  · have hne : (chkM n l dur 1 != 0) = true := by simp [hc]
    have HM1 := hide (cpathM_bad hc)
    clear hc
    go_wp2
    go_ret2
    exact ⟨by rw [HM1.out]; rfl, hf1⟩
end Go.Proofs.Ytinengemeppefaa
