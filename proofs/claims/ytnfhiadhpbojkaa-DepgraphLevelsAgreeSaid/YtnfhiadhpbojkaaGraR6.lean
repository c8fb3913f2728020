/- Walks over the reference of layer 24: Levels. -/
import Derived.Test.YtnfhiadhpbojkaaGraR4
import Derived.Test.YtnfhiadhpbojkaaGraW6
namespace Go.Proofs.Ytnfhiadhpbojkaa
open Go.RowKit

def RlRel1 (w1 : World) (g n : Nat) (L : List (Nat × Nat)) (o : List Nat) (m : Nat) (i : Value) (wr : World) : Prop :=
  ∃ k : Nat, k ≤ n ∧ i = .int .i64 k ∧ FA wr g 3 nv n (levs L (o.take k)) ∧ Fr [] w1 wr ∧ m = n - k
def RlRel2 (w1 : World) (g n : Nat) (L : List (Nat × Nat)) (v : Nat) (f : Nat → Nat) (m : Nat) (i : Value) (wr : World) : Prop :=
  ∃ k : Nat, k ≤ L.length ∧ i = .int .i64 k ∧ FA wr g 3 nv n ((L.take k).foldl (levP v) f) ∧ Fr [] w1 wr ∧ m = L.length - k
theorem foldP_le {v b : Nat} : ∀ (C : List (Nat × Nat)) (f : Nat → Nat), (∀ u, f u ≤ b) → ∀ u, C.foldl (levP v) f u ≤ b + C.length
  | [], f, h => by simpa using h
  | c :: C, f, h => fun u => by
    have h1 : ∀ u, levP v f c u ≤ b + 1 := fun u => by
      unfold levP
      split
      · exact levS_le h u
      · have := h u; omega
    have := foldP_le (v := v) (b := b + 1) C (levP v f c) h1 u
    simp
    omega

set_option maxHeartbeats 4000000 in
theorem rlevels_any24 (n : Int) (A : Option Addr) (cp : Nat) (l : List (Int × Int)) (w : World) (hr : Row w A (pcs l)) (hm : l.length ≤ 4096) :
    Calls Try.prog 24 #[.int .i64 n, .slice A l.length cp] w (LevRet w n l) := by
  have HR := hide hr
  clear hr
  go_enter Try.func24, Try.ntmps24
  go_wp2_with fail
  refine (rorder_any24 n A cp l w HR.out hm).mono ?_
  rintro e w1 ⟨v, rfl, hown, hf1⟩
  by_cases hb : (orderM n l).2 = 0
  · obtain ⟨N, rfl, hN, hok, -, -, hful, hom⟩ := orderM_zero hb
    have hlm : levelsM (N : Int) l = ((List.range N).map (levs (toNs l) (greedy N (toNs l))), 0) := by
      unfold levelsM
      rw [if_pos hb, hom, Int.toNat_natCast]
    rw [hom] at hown ⊢
    simp only at hown ⊢
    have hl1 : l.length ≤ 1024 := hok.2.2.1
    have hgo := greedy_ok N (toNs l)
    have HLM := hide hlm
    have HOK := hide hok
    clear hb hom hlm hok
    obtain ⟨L, hL⟩ : ∃ L, L = toNs l := ⟨_, rfl⟩
    have hLl : L.length = l.length := by rw [hL]; simp [toNs]
    rw [← hL] at hown hgo HLM hful
    obtain ⟨o, ho⟩ : ∃ o, o = greedy N L := ⟨_, rfl⟩
    rw [← ho] at hown hgo HLM hful
    obtain ⟨A2, c2, rfl, -, hro, -⟩ := own_slice hown
    have HRO := hide hro
    have HGO := hide hgo
    have HL := hide hL
    have HFUL := hide hful
    have hol : o.length ≤ 128 := by omega
    have hL2 : L.length ≤ 1024 := by omega
    have HLL := hide hLl
    have hmk := make_ints N N (Nat.le_refl _) (by omega)
    have hnew : FA (w1.alloc (.cells (Array.replicate N (.int .i64 0)) 3)) w1.heap.size 3 nv N (fun _ => 0) := FA.new w1 3 nv 0 N
    have hfr3 : Fr [] w1 (w1.alloc (.cells (Array.replicate N (.int .i64 0)) 3)) := (Fr.refl _ _).alloc _
    clear ho hown hro hgo hL hful hLl
    go_wp2
    generalize (w1.alloc (.cells (Array.replicate N (.int .i64 0)) 3)) = w3 at hnew hfr3 ⊢
    obtain ⟨lg, hlg⟩ : ∃ lg, lg = w1.heap.size := ⟨_, rfl⟩
    have hlw : w1.heap.size ≤ lg := by omega
    rw [← hlg] at hnew ⊢
    clear hlg hmk
    go_loopg [9] N (fun m i wr => RlRel1 w1 lg N L o m i wr)
    case atStart => exact ⟨0, by omega, rfl, hnew.congr (fun u _ => by simp [levs]), hfr3, rfl⟩
    case round =>
      clear hnew hfr3
      obtain ⟨k, hk, rfl, hfa, hfr, hmm⟩ := hrel
      have HM := hide hmm
      have HFA := hide hfa
      clear hmm hfa
      by_cases hlt : k < N
      · obtain ⟨v, hv⟩ : ∃ v, o[k]? = some v := ⟨_, List.getElem?_eq_getElem (by rw [HFUL.out]; exact hlt)⟩
        have hvN := HGO.out.lt v (List.mem_of_getElem? hv)
        have hkl : (k : Int) < (N : Int) := by omega
        have hkl2 : (k : Int) < (o.length : Int) := by rw [HFUL.out]; omega
        have hvi : (v : Int) < (N : Int) := by omega
        have HV := hide (take_succ_some hv)
        have HVV := hide hv
        clear hv
        have hlv := levV_links L (levs L (o.take k)) v
        have hfb : ∀ u, levs L (o.take k) u ≤ 131072 := fun u => levs_bound hL2 (by rw [List.length_take]; omega) u
        generalize hf0 : levs L (o.take k) = f at hlv hfb HFA
        have HF0 := hide hf0
        have HLV := hide hlv
        have HFBD := hide hfb
        clear hlv hf0 hfb
        go_wp2
        go_loopg [10] L.length (fun m i wr => RlRel2 w1 lg N L v f m i wr)
        case atStart => exact ⟨0, by omega, rfl, HFA.out, hfr, rfl⟩
        case round =>
          clear HFA hfr
          obtain ⟨j, hj, rfl, hfa, hfr, hmm⟩ := hrel
          have HM2 := hide hmm
          have HFA := hide hfa
          clear hmm hfa
          by_cases hlt2 : j < l.length
          · obtain ⟨p, hp⟩ : ∃ p, l[j]? = some p := ⟨_, List.getElem?_eq_getElem hlt2⟩
            obtain ⟨ob, oo, e, c1, c2⟩ := (HR.out.fr0 (hf1.call hfr)).link hp
            subst e
            obtain ⟨ob2, oo2, e, c3⟩ := (HRO.out.fr0 hfr).at_ (i := k) (u := nv v) (by rw [List.getElem?_map, HVV.out]; rfl)
            subst e
            have hpo := HOK.out.2.2.2 p (List.mem_of_getElem? hp)
            have hLk : L[j]? = some (toN p) := by rw [HL.out]; simp [toNs, hp]
            have HU : Hid ((L.take (j + 1)).foldl (levP v) f = levP v ((L.take j).foldl (levP v) f) (toN p)) := hide (by rw [take_succ_some hLk]; simp)
            clear hp hLk
            have hjl : (j : Int) < (l.length : Int) := by omega
            obtain ⟨c, s⟩ := p
            simp only at c1 c2
            unfold LinkOk at hpo
            simp only at hpo
            obtain ⟨q1, q2, q3, q4⟩ := hpo
            obtain ⟨c, rfl⟩ := Int.eq_ofNat_of_zero_le q1
            obtain ⟨s, rfl⟩ := Int.eq_ofNat_of_zero_le q3
            have HU2 : Hid ((L.take (j + 1)).foldl (levP v) f = levP v ((L.take j).foldl (levP v) f) (c, s)) := HU
            have hc1 := HFA.out.cell hvN
            have hc2 := HFA.out.frozen v
            have hc3 := HFA.out.cell (i := s) (by omega)
            have hb1 := foldP_le (v := v) (L.take j) f HFBD.out v
            have hb2 := foldP_le (v := v) (L.take j) f HFBD.out s
            rw [List.length_take] at hb1 hb2
            clear HU
            generalize hF : (L.take j).foldl (levP v) f = F at hc1 hc3 HU2 HFA hb1 hb2
            have hx1 : F v ≤ 200000 := by omega
            have hx2 : F s ≤ 200000 := by omega
            clear hF hb1 hb2
            generalize hx : F v = x at hc1 hx1
            generalize hy : F s = y at hc3 hx2
            have HX := hide hx
            have HY := hide hy
            clear hx hy
            by_cases hcv : c = v
            · subst hcv
              have eb : ((c : Int) == (c : Int)) = true := by simp
              by_cases hgt : x < y + 1
              · have hgb : (x : Int) < (y : Int) + 1 := by omega
                have hgd : decide ((x : Int) < (y : Int) + 1) = true := by simp; omega
                go_wp2
                go_quiet (fail)
                go_wp2
                generalize hwd : wr.drewN _ = wd
                have c1' : wd.cell? ⟨ob2, oo2 + k, none⟩ = some (nv c) := by rw [← hwd]; exact c3
                have c2' : wd.cell? ⟨ob, oo + j * 2 + 1, none⟩ = some (.int .i64 (s : Int)) := by rw [← hwd]; exact c2
                have c3' : wd.cell? ⟨lg, s, none⟩ = some (nv y) := by rw [← hwd]; exact hc3
                have c4' : wd.cell? ⟨lg, c, none⟩ = some (nv x) := by rw [← hwd]; exact hc1
                have c5' : wd.frozen? ⟨lg, c, none⟩ = false := by rw [← hwd]; exact hc2
                have hfd : Fr [] w1 wd := by rw [← hwd]; exact hfr.drewN _
                have hFd : FA wd lg 3 nv N F := by rw [← hwd]; exact HFA.out.fr0 ((Fr.refl [] _).drewN _)
                have HFD := hide hFd
                clear hwd hFd c1 c2 c3 hc1 hc2 hc3 HFA
                go_region
                all_goals
                  go_wp2
                  go_roundg (L.length - (j + 1))
                  case measure => rw [HM2.out, HLL.out]; omega
                  case rel =>
                    refine ⟨j + 1, by rw [HLL.out]; omega, by go_num, ?_, (hfd.set (.inr hlw) _).drew, rfl⟩
                    have h1 := (HFD.out.set_ c (y + 1)).fr0 (Fr.refl [] _).drew
                    rw [show nv (y + 1) = .int .i64 ((y : Int) + 1) from rfl] at h1
                    refine h1.congr (fun t _ => ?_)
                    rw [HU2.out]
                    unfold levP levS
                    by_cases e : t = c
                    · simp [e, HX.out, HY.out]
                      omega
                    · simp [e]
              · have hgb : ¬ (x : Int) < (y : Int) + 1 := by omega
                have hgd : decide ((x : Int) < (y : Int) + 1) = false := by simp; omega
                go_wp2
                go_quiet (fail)
                go_wp2
                go_roundg (L.length - (j + 1))
                case measure => rw [HM2.out, HLL.out]; omega
                case rel =>
                  refine ⟨j + 1, by rw [HLL.out]; omega, by go_num, (HFA.out.fr0 ((Fr.refl [] _).drewN _)).congr (fun t _ => ?_), hfr.drewN _, rfl⟩
                  rw [HU2.out]
                  unfold levP levS
                  by_cases e : t = c
                  · simp [e, HX.out, HY.out]
                    omega
                  · simp [e]
            · have eb : ((c : Int) == (v : Int)) = false := by simp; omega
              go_wp2
              go_quiet (fail)
              go_wp2
              go_roundg (L.length - (j + 1))
              case measure => rw [HM2.out, HLL.out]; omega
              case rel =>
                refine ⟨j + 1, by rw [HLL.out]; omega, by go_num, (HFA.out.fr0 ((Fr.refl [] _).drewN _)).congr (fun t _ => ?_), hfr.drewN _, rfl⟩
                rw [HU2.out]
                unfold levP
                rw [if_neg hcv]
          · have hjl : ¬ (j : Int) < (l.length : Int) := by omega
            have hfa := HFA.out
            rw [List.take_of_length_le (by rw [HLL.out]; omega), HLV.out, ← HF0.out, ← levs_snoc, ← HV.out] at hfa
            have HFB := hide hfa
            clear hfa HFA
            go_wp2
            go_roundg (N - (k + 1))
            case measure => rw [HM.out]; omega
            case rel => exact ⟨k + 1, by omega, by go_num, HFB.out, hfr, rfl⟩
      · have hkl : ¬ (k : Int) < (N : Int) := by omega
        have hfa := HFA.out
        rw [List.take_of_length_le (by rw [HFUL.out]; omega)] at hfa
        have hfin := hfa.own (base := w.heap.size) (by have := hf1.size; omega) (by simp [maxLen]; omega)
        have HFIN := hide hfin
        clear hfa hfin
        go_wp2
        go_ret2
        exact ⟨.slice (some ⟨lg, 0, none⟩) N N, by rw [HLM.out]; rfl, by rw [HLM.out]; simpa using HFIN.out, hf1.call hfr⟩
  · have hne : ((orderM n l).2 != 0) = true := by simp [hb]
    have hlm : levelsM n l = ([], (orderM n l).2) := by
      unfold levelsM
      rw [if_neg hb]
    have HM1 := hide hlm
    clear hlm hb hown
    generalize (orderM n l).2 = x at hne HM1 ⊢
    go_wp2
    go_ret2
    exact ⟨.slice none 0 0, by rw [HM1.out]; rfl, by rw [HM1.out]; exact own_nil _ _ _ _, hf1⟩
end Go.Proofs.Ytnfhiadhpbojkaa
