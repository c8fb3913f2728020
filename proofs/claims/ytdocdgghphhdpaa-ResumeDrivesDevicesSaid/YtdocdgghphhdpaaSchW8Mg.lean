/- Walks: resume.CriticalPath. -/
import Derived.Test.YtdocdgghphhdpaaMgResumeDrives22
import Derived.RegionTactic
import Derived.ChangeAlike
namespace Go.Proofs.Ytdocdgghphhdpaa
open Go.RowKit

theorem path_le {L : List (Nat × Nat)} {D : Nat → Nat} {B : Nat} (hD : ∀ d, D d ≤ B) (o : List Nat) : ∀ u, pathM L D o u ≤ o.length * B := by
  induction o using snoc_ind with
  | nil => intro u; simp [pathM]
  | snoc o v ih =>
    intro u
    rw [pathM_snoc]
    unfold cpV
    rw [List.length_append, List.length_singleton, Nat.add_mul, Nat.one_mul]
    split
    · have h1 : fmax (pathM L D o) (nb false L v) ≤ o.length * B := fmax_le fun s _ => ih s
      have h2 := hD v
      omega
    · have := ih u
      omega
def cpathM (n : Int) (l : List (Int × Int)) (dur : List Nat) : Nat × Int := if chkM n l dur 1 = 0 then (cpM (toNs l) (durF dur) (greedy n.toNat (toNs l)), 0) else (0, chkM n l dur 1)
theorem cpathM_bad {n : Int} {l : List (Int × Int)} {dur : List Nat} (h : ¬ chkM n l dur 1 = 0) : cpathM n l dur = (0, chkM n l dur 1) := by simp [cpathM, h]
theorem cpathM_ok {N : Nat} {l : List (Int × Int)} {dur : List Nat} (h : chkM N l dur 1 = 0) : cpathM N l dur = (cpM (toNs l) (durF dur) (greedy N (toNs l)), 0) := by simp [cpathM, h]
def CpRet (w : World) (r : Nat × Int) (e : Ending) (w' : World) : Prop := e = .returned (.tuple #[.int .u64 (r.1 : Int), .int .i64 r.2]) ∧ Fr [] w w'
def CpRel1 (w1 : World) (g n : Nat) (L : List (Nat × Nat)) (D : Nat → Nat) (o : List Nat) (m : Nat) (v i : Value) (wr : World) : Prop :=
  ∃ k : Nat, k ≤ o.length ∧ v = .int .u64 (cpM L D (o.take k) : Int) ∧ i = .int .i64 k ∧ FA wr g 33 uv n (pathM L D (o.take k)) ∧ Fr [] w1 wr ∧ m = o.length - k
def CpRel2 (w1 : World) (g n : Nat) (C : List Nat) (v : Nat) (f : Nat → Nat) (m : Nat) (i : Value) (wr : World) : Prop :=
  ∃ k : Nat, k ≤ C.length ∧ i = .int .i64 k ∧ FA wr g 33 uv n (fun u => if u = v then fmax f (C.take k) else f u) ∧ Fr [] w1 wr ∧ m = C.length - k
theorem orderM_good {N : Nat} {l : List (Int × Int)} (hb : basicM (N : Int) l = 0) (hf : (greedy N (toNs l)).length = N) : orderM (N : Int) l = (greedy N (toNs l), 0) := by
  unfold orderM
  rw [hb, if_pos rfl, Int.toNat_natCast, if_pos hf]

set_option maxHeartbeats 4000000 in
set_option maxRecDepth 100000 in
theorem critical31_any (n : Int) (A B : Option Addr) (cp cq : Nat) (l : List (Int × Int)) (dur : List Nat) (w : World) (hr : Row w A (pcs l)) (hb : Row w B (dur.map uv)) (hm : l.length ≤ 4096) :
    Calls Try.prog 86 #[.int .i64 n, .slice A l.length cp, .slice B dur.length cq] w (CpRet w (cpathM n l dur)) := by
  have HB := hide hb
  have HR := hide hr
  clear hr hb
  go_enter Try.func86, Try.ntmps86
  go_wp2_with fail
  refine (check31_any n 1 A B cp cq l dur w HR.out HB.out hm).mono ?_
  rintro e w1 ⟨rfl, hf1⟩
  by_cases hc : chkM n l dur 1 = 0
  · obtain ⟨N, V, rfl, -, hgood⟩ := chkM_good hc
    have HRES := hide (cpathM_ok hc)
    have hN := hgood.nodes
    have hdl := hgood.len
    have HG := hide hgood
    have hll : (toNs l).length ≤ 1024 := by have := hgood.links.2.2.1; simpa [toNs] using this
    rw [hc]
    clear hc hgood
    go_wp2_with fail
    refine (order_any24 N A cp l w1 (HR.out.fr0 hf1) hm).mono ?_
    rintro e w2 ⟨v, rfl, hown, hf2⟩
    have ho := orderM_good HG.out.basic HG.out.full
    have hful := HG.out.full
    have hord := greedy_ord N (toNs l)
    rw [ho] at hown ⊢
    simp only at hown ⊢
    clear ho
    have HSUP := hide HG.out.links
    have HLT := hide HG.out.lt
    generalize hL : toNs l = L at hown hll hful hord HRES HLT ⊢
    generalize greedy N L = o at hown hful hord HRES ⊢
    obtain ⟨A2, c2, rfl, -, hro, -⟩ := own_slice hown
    have HRO := hide hro
    have HORD := hide hord
    have HL := hide hL
    have HFUL := hide hful
    have hol : o.length ≤ 128 := by omega
    clear hown hro hord hL hful
    go_wp2_with fail
    refine (suppliers31_any N A cp l w2 (HR.out.fr0 (hf1.call hf2)) HSUP.out).mono ?_
    rintro e w3 ⟨g, rfl, hls, hf3⟩
    rw [HL.out] at hls
    have hmk := make_u64s N N (Nat.le_refl _) (by omega)
    have hnew : FA (w3.alloc (.cells (Array.replicate N (.int .u64 0)) 33)) w3.heap.size 33 uv N (fun _ => 0) := FA.new w3 33 uv 0 N
    have hfr4 : Fr [] w3 (w3.alloc (.cells (Array.replicate N (.int .u64 0)) 33)) := (Fr.refl _ _).alloc _
    have HLS := hide hls
    have HRO2 := hide (HRO.out.fr0 hf3)
    have HB3 := hide (((HB.out.fr0 hf1).fr0 hf2).fr0 hf3)
    have hBlow : ∀ ad, B = some ad → 0 < dur.length → ad.block < w3.heap.size := fun ad e h0 => by
      obtain ⟨ob, oo, e2, h1⟩ := HB3.out.lt (by simpa using h0)
      rw [e] at e2
      injection e2 with e2
      rw [e2]; exact h1
    have HBL := hide hBlow
    clear hls HRO hBlow
    go_wp2
    generalize (w3.alloc (.cells (Array.replicate N (.int .u64 0)) 33)) = w4 at hnew hfr4 ⊢
    obtain ⟨lg, hlg⟩ : ∃ lg, lg = w3.heap.size := ⟨_, rfl⟩
    have hlw : w3.heap.size ≤ lg := by omega
    rw [← hlg] at hnew ⊢
    have HLG := hide hlg
    clear hlg hmk
    go_loopg [13, 41] o.length (fun m v i wr => CpRel1 w3 lg N L (durF dur) o m v i wr)
    case atStart => exact ⟨0, by omega, by simp [cpM, fmax], rfl, hnew.congr (fun u _ => by simp [pathM]), hfr4, rfl⟩
    case round =>
      clear hnew hfr4
      obtain ⟨k, hk, rfl, rfl, hfa, hfr, hmm⟩ := hrel
      have HM := hide hmm
      have HFA := hide hfa
      clear hmm hfa
      by_cases hlt : k < o.length
      · obtain ⟨v, hv⟩ : ∃ v, o[k]? = some v := ⟨_, List.getElem?_eq_getElem hlt⟩
        obtain ⟨ob, oo, e, c1⟩ := (HRO2.out.fr0 hfr).at_ (i := k) (u := nv v) (by simp [hv])
        subst e
        have hvN := HORD.out.lt v (List.mem_of_getElem? hv)
        have hkl : (k : Int) < (o.length : Int) := by omega
        have hvi : (v : Int) < (N : Int) := by omega
        have hvno : v ∉ o.take k := fun h => by
          have hn := HORD.out.nodup
          rw [split_at_some hv, List.nodup_append] at hn
          exact hn.2.2 v h v (by simp) rfl
        have hvC : v ∉ nb false L v := fun h => hvno (HORD.out.sup k v hv _ (mem_nb.1 h) rfl)
        have HV := hide (take_succ_some hv)
        have hf0 : pathM L (durF dur) (o.take k) v = 0 := pathM_zero _ _ hvno
        have hbd : ∀ u, pathM L (durF dur) (o.take k) u ≤ 1152921504606846976 := fun u => by
          have h1 := path_le (L := L) (B := maxD) HG.out.durF_le (o.take k) u
          have h3 : (o.take k).length ≤ 128 := by rw [List.length_take]; omega
          have h2 : (o.take k).length * maxD ≤ 128 * maxD := Nat.mul_le_mul_right maxD h3
          have h4 : 128 * maxD = 1152921504606846976 := by decide
          rw [h4] at h2
          exact Nat.le_trans h1 h2
        have HSN := hide (pathM_snoc L (durF dur) (o.take k) v)
        have HCP := hide (cpM_snoc (L := L) (D := durF dur) hvno)
        have hcpb : cpM L (durF dur) (o.take k) ≤ 1152921504606846976 := fmax_le fun s _ => hbd s
        rw [← take_succ_some hv] at HSN HCP
        clear hv hvno
        obtain ⟨vc, hcv1, -, howc, -, -⟩ := HLS.out.at_ (nbs_get false L hvN)
        have hcv := Fr.cell hfr hcv1 (by simp)
        have hCm : ∀ u, u ∈ nb false L v → u < N := fun u hu => (HLT.out _ (mem_nb.1 hu)).2
        have hCl := nb_length_le false L v
        unfold cpV at HSN
        generalize nb false L v = C at hCm hCl howc hvC HSN
        generalize pathM L (durF dur) (o.take k) = f at hf0 hbd HFA HSN
        generalize cpM L (durF dur) (o.take k) = big at HCP hcpb ⊢
        have HBD := hide hbd
        have HF0 := hide hf0
        have HVC := hide hvC
        have HCM := hide hCm
        obtain ⟨AC, cc, rfl, -, hrc, -⟩ := own_slice howc
        have HRC := hide hrc
        clear hCm howc hrc hcv1 hbd hf0 hvC
        go_wp2
        go_loopg [50] C.length (fun m i wr => CpRel2 w3 lg N C v f m i wr)
        case atStart => exact ⟨0, by omega, rfl, HFA.out.congr (fun u _ => by
          by_cases e : u = v
          · rw [if_pos e, e, HF0.out]; rfl
          · rw [if_neg e]), hfr, rfl⟩
        case round =>
          clear HFA hfr hcv c1
          obtain ⟨j, hj, rfl, hfa, hfr, hmm⟩ := hrel
          have HM2 := hide hmm
          have HFA := hide hfa
          clear hmm hfa
          have hfx : fmax f (C.take j) ≤ 1152921504606846976 := fmax_le fun s _ => HBD.out s
          by_cases hlt2 : j < C.length
          · obtain ⟨u, hu⟩ : ∃ u, C[j]? = some u := ⟨_, List.getElem?_eq_getElem hlt2⟩
            obtain ⟨ob2, oo2, e, c1⟩ := (HRC.out.fr0 hfr).at_ (i := j) (u := nv u) (by simp [hu])
            subst e
            have huC := List.mem_of_getElem? hu
            have huN := HCM.out u huC
            have huv : u ≠ v := fun e => HVC.out (by rw [← e]; exact huC)
            have hjl : (j : Int) < (C.length : Int) := by omega
            have hui : (u : Int) < (N : Int) := by omega
            have hc1 := HFA.out.cell hvN
            have hc2 := HFA.out.frozen v
            have hc3 := HFA.out.cell huN
            simp only [if_true] at hc1
            rw [if_neg huv] at hc3
            have HU : Hid (fmax f (C.take (j + 1)) = max (fmax f (C.take j)) (f u)) := hide (by rw [take_succ_some hu, fmax_snoc])
            clear hu huC huv
            generalize fmax f (C.take j) = x at hc1 HU HFA hfx
            have hfy := HBD.out u
            generalize f u = y at hc3 HU hfy
            go_wp2
            go_region
            go_wp2
            all_goals
              go_roundg (C.length - (j + 1))
              case measure => rw [HM2.out]; omega
              case rel =>
                refine ⟨j + 1, by omega, by go_num, ?_, ?_, rfl⟩
                · first
                    | (have e0 : max x y = y := by omega
                       have h1 := (HFA.out.set_ v y).fr0 (Fr.refl [] _).drew
                       refine h1.congr (fun t _ => ?_)
                       rw [HU.out, e0]
                       by_cases e : t = v
                       · simp [e]
                       · simp [e])
                    | (have e0 : max x y = x := by omega
                       have h1 := (HFA.out.set_ v x).fr0 (Fr.refl [] _).drew
                       refine h1.congr (fun t _ => ?_)
                       rw [HU.out, e0]
                       by_cases e : t = v
                       · simp [e]
                       · simp [e])
                · exact (hfr.set (.inr hlw) _).drew
          · have hjl : ¬ (j : Int) < (C.length : Int) := by omega
            rw [List.take_of_length_le (by omega)] at HFA hfx
            have hvd : v < dur.length := by omega
            obtain ⟨y, hy⟩ : ∃ y, dur[v]? = some y := ⟨_, List.getElem?_eq_getElem hvd⟩
            have hyD : durF dur v = y := by simp [durF, List.getD_eq_getElem?_getD, hy]
            have hyM := HG.out.dur y (List.mem_of_getElem? hy)
            unfold maxD at hyM
            obtain ⟨bb, bo, eB, b1⟩ := (HB3.out.fr0 hfr).uint hy
            have hbl := HBL.out _ eB (by omega)
            subst eB
            have hc1 := HFA.out.cell hvN
            have hc2 := HFA.out.frozen v
            simp only [if_true] at hc1 hbl
            have hvl : (v : Int) < (dur.length : Int) := by omega
            rw [hyD] at HSN
            have hbne : bb ≠ lg := by have := HLG.out; omega
            clear hy hyD
            generalize hx : fmax f C = x at hc1 HFA hfx HSN
            have hcx : cpM L (durF dur) (o.take (k + 1)) = max big (x + y) := by
              have h := HCP.out
              rw [HSN.out] at h
              simpa using h
            have HCX := hide hcx
            have hnow : (x : Int) + (y : Int) ≤ 18446744073709551615 := by omega
            clear hx hcx HCP
            by_cases hbig : big ≤ x + y
            · have hbig' : (big : Int) ≤ (x : Int) + (y : Int) := by omega
              have e0 : max big (x + y) = x + y := by omega
              rw [e0] at HCX
              clear e0 hbig
              go_wp2
              go_region
              go_wp2
              all_goals
                go_roundg (o.length - (k + 1))
                case measure => rw [HM.out]; omega
                case rel =>
                  refine ⟨k + 1, by omega, ?_, by go_num, ?_, ?_, rfl⟩
                  · first | (rw [HCX.out]; rfl) | (rw [HCX.out]; congr 1; omega)
                  · have h1 := (HFA.out.set_ v (x + y)).fr0 (Fr.refl [] _).drew
                    refine FA.congr h1 (fun t _ => ?_)
                    rw [HSN.out]
                    by_cases e : t = v
                    · simp [e]
                    · simp [e]
                  · exact (hfr.set (.inr hlw) _).drew
            · have hbig' : ¬ (big : Int) ≤ (x : Int) + (y : Int) := by omega
              have e0 : max big (x + y) = big := by omega
              rw [e0] at HCX
              clear e0 hbig
              go_wp2
              go_region
              go_wp2
              all_goals
                go_roundg (o.length - (k + 1))
                case measure => rw [HM.out]; omega
                case rel =>
                  refine ⟨k + 1, by omega, ?_, by go_num, ?_, ?_, rfl⟩
                  · first | (rw [HCX.out]; done) | (rw [HCX.out]; congr 1; omega)
                  · have h1 := (HFA.out.set_ v (x + y)).fr0 (Fr.refl [] _).drew
                    refine FA.congr h1 (fun t _ => ?_)
                    rw [HSN.out]
                    by_cases e : t = v
                    · simp [e]
                    · simp [e]
                  · exact (hfr.set (.inr hlw) _).drew
      · have hkl : ¬ (k : Int) < (o.length : Int) := by omega
        rw [List.take_of_length_le (by omega)]
        go_wp2
        go_ret2
        exact ⟨by rw [HRES.out]; rfl, ((hf1.call hf2).call hf3).call hfr⟩
  · have hne : (chkM n l dur 1 != 0) = true := by simp [hc]
    have HM1 := hide (cpathM_bad hc)
    clear hc
    go_wp2
    go_ret2
    exact ⟨by rw [HM1.out]; rfl, hf1⟩
end Go.Proofs.Ytdocdgghphhdpaa

