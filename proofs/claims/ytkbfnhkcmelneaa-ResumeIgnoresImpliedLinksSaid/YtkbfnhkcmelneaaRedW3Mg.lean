/- Walks: depgraph.Reduce. -/
import Derived.Test.YtkbfnhkcmelneaaRedW2Mg
import Derived.Test.YtkbfnhkcmelneaaRedMMg
import Derived.Test.YtkbfnhkcmelneaaMgResumeImplied3
import Derived.Test.YtkbfnhkcmelneaaGraW10Mg
import Derived.Test.YtkbfnhkcmelneaaOwnK
namespace Go.Proofs.Ytkbfnhkcmelneaa
open Go.RowKit

def redM (n : Int) (l : List (Int × Int)) : List (Int × Int) × Int := if checkM n l = 0 then (sortL (keptTo n.toNat (toNs l) n.toNat), 0) else ([], checkM n l)
def RedRet (w : World) (n : Int) (l : List (Int × Int)) (e : Ending) (w' : World) : Prop :=
  ∃ v, e = .returned (.tuple #[v, .int .i64 (redM n l).2]) ∧ w'.ownsRow w.heap.size 41 2 v (redM n l).1.length (pcs (redM n l).1) ∧ Fr [] w w'
def Rd1 (w2 : World) (N : Nat) (L : List (Nat × Nat)) (m : Nat) (v i : Value) (wr : World) : Prop :=
  ∃ k : Nat, k ≤ N ∧ i = .int .i64 (k : Int) ∧ wr.ownsRow w2.heap.size 41 2 v (keptTo N L k).length (pcs (keptTo N L k)) ∧ Fr [] w2 wr ∧ m = N - k
def Rd2 (wk : World) (L : List (Nat × Nat)) (c : Nat) (C : List Nat) (m : Nat) (v i : Value) (wr : World) : Prop :=
  ∃ j : Nat, j ≤ C.length ∧ i = .int .i64 (j : Int) ∧ wr.ownsRow wk.heap.size 3 1 v (beyTo L c j).length ((beyTo L c j).map nv) ∧ Fr [] wk wr ∧ m = C.length - j
def kepU (R : Nat → Bool) (C : List Nat) (c : Nat) (K : List (Int × Int)) (j : Nat) : List (Int × Int) := K ++ ((C.take j).filter fun s => !R s).map (lnk c)
def Rd3 (w2 : World) (N rb : Nat) (R : Nat → Bool) (C : List Nat) (c : Nat) (K : List (Int × Int)) (m : Nat) (v i : Value) (wr : World) : Prop :=
  ∃ j : Nat, j ≤ C.length ∧ i = .int .i64 (j : Int) ∧ wr.ownsRow w2.heap.size 41 2 v (kepU R C c K j).length (pcs (kepU R C c K j)) ∧ FA wr rb 4 bv N R ∧ Fr [] w2 wr ∧ m = C.length - j
theorem kepU_step {R : Nat → Bool} {C : List Nat} {c : Nat} {K : List (Int × Int)} {j s : Nat} (h : C[j]? = some s) : kepU R C c K (j + 1) = if R s then kepU R C c K j else kepU R C c K j ++ [lnk c s] := by
  unfold kepU
  rw [take_succ_some h, List.filter_append, List.map_append]
  cases hr : R s <;> simp [hr]
theorem link_info2 : (Try.prog.info? 41).map (fun i => (i.zero, i.size, i.bytes)) = some (some (.agg #[.int .i64 0, .int .i64 0]), 2, 16) := by kernel_rfl
theorem row_two2 (w : World) (t : TypeId) (a b : Value) : Row (w.alloc (.cells #[a, b] t)) (some ⟨w.heap.size, 0, none⟩) [a, b] := row_lit w #[a, b] t rfl
set_option maxHeartbeats 8000000 in
set_option maxRecDepth 100000 in
theorem reduce_any (n : Int) (A : Option Addr) (cp : Nat) (l : List (Int × Int)) (w : World) (hr : Row w A (pcs l)) (hm : l.length ≤ 60) :
    Calls Try.prog 8 #[.int .i64 n, .slice A l.length cp] w (RedRet w n l) := by
  have HR := hide hr
  obtain ⟨i0, hi0, hz0, hz1, hz2⟩ := info_parts link_info2
  have HI := hide (And.intro hi0 (And.intro hz0 (And.intro hz1 hz2)))
  obtain ⟨i1, hi10, hz10, hz11, hz12⟩ := info_parts int_info1
  have HI1 := hide (And.intro hi10 (And.intro hz10 (And.intro hz11 hz12)))
  clear hr hi0 hz0 hz1 hz2 hi10 hz10 hz11 hz12
  go_enter Try.func8, Try.ntmps8
  go_wp2_with fail
  refine (check_any24 n A cp l w HR.out (by omega)).mono ?_
  rintro e w1 ⟨rfl, hf1⟩
  by_cases hb : checkM n l = 0
  · have hbas : basicM n l = 0 := by
      apply Classical.byContradiction
      intro h
      unfold checkM orderM at hb
      rw [if_neg h] at hb
      exact h hb
    obtain ⟨hok, -⟩ := basicM_zero hbas
    obtain ⟨N, rfl⟩ := Int.eq_ofNat_of_zero_le hok.1
    have hN : N ≤ 128 := by have := hok.2.1; omega
    have HRM : Hid (redM (N : Int) l = (sortL (keptTo N (toNs l) N), 0)) := hide (by unfold redM; rw [if_pos hb, Int.toNat_natCast])
    rw [hb]
    have HLT := hide (toNs_lt hok.2.2.2)
    have hLl : (toNs l).length ≤ 60 := by simp [toNs]; omega
    clear hb hbas
    go_wp2_with fail
    refine (neighbors_any false N A cp l w1 (HR.out.fr0 hf1) hok).mono ?_
    rintro e w2 ⟨g, rfl, hls, hf2⟩
    have HLS := hide hls
    have hfw2 := hf1.call hf2
    clear hls hok
    generalize toNs l = L at HRM HLT hLl HLS
    go_wp2
    go_loopg [8, 26] N (fun m v i wr => Rd1 w2 N L m v i wr)
    case atStart => exact ⟨0, by omega, rfl, own_nil _ _ _ _, Fr.refl _ _, rfl⟩
    case round =>
      obtain ⟨c, hc, rfl, hown, hfr, hmm⟩ := hrel
      have HM := hide hmm
      obtain ⟨A8, c8, rfl, -, -, -⟩ := own_slice hown
      have HK := hide hown
      clear hmm hown
      obtain ⟨wo, rfl⟩ : ∃ wo : World, wo = wr := ⟨_, rfl⟩
      by_cases hlt : c < N
      · have hcl : (c : Int) < (N : Int) := by omega
        have hCl := nb_length_le false L c
        have hKS := keptTo_step (N := N) (L := L) c
        have HKS := hide hKS
        have HCC := hide (show keptC N L c = (nb false L c).filter fun s => !indB N L c s from rfl)
        have HIB := hide (show indB N L c = rchB N L (beyL L c) from rfl)
        have HCM := hide (fun s (h : s ∈ nb false L c) => (HLT.out (c, s) (by simpa using nb_mem.1 h)).2)
        have HBS := hide (fun j s (h : (nb false L c)[j]? = some s) => beyTo_step h)
        have HBA := hide (beyTo_all (L := L) (c := c) (Nat.le_refl _))
        have HBL := hide (fun j => beyTo_le c j hLl)
        have HBM : Hid (∀ u ∈ beyL L c, u < N) := hide (fun u hu => by
          obtain ⟨t, ht, h2⟩ := List.mem_flatMap.1 hu
          exact (HLT.out (t, u) (by simpa using nb_mem.1 h2)).2)
        have HLSr := hide (HLS.out.fr0 hfr)
        obtain ⟨vc, hcv0, -, hcown, -, -⟩ := HLS.out.at_ (nbs_get false L hlt)
        have hcv := hfr.cell hcv0 (by simp)
        obtain ⟨Ac, cc, rfl, -, -, -⟩ := own_slice hcown
        have HCO := hide hcown
        have HKL : Hid ((keptTo N L c).length ≤ 128 * 60) := hide (by
          have h1 : ∀ k, k ≤ 128 → (keptTo N L k).length ≤ k * 60 := fun k hk => by
            induction k with
            | zero => simp [keptTo]
            | succ k ih =>
              rw [keptTo_step, List.length_append, List.length_map]
              have h2 := ih (by omega)
              have h3 : (keptC N L k).length ≤ (nb false L k).length := List.length_filter_le _ _
              have h4 := nb_length_le false L k
              rw [Nat.add_mul]
              omega
          have := h1 c (by omega)
          have h5 : c * 60 ≤ 128 * 60 := Nat.mul_le_mul_right 60 (by omega)
          omega)
        clear hcown hKS hcv0
        generalize nb false L c = C at hCl HCC HCM HBS HBA hcv HCO
        go_wp2
        go_loopg [10, 34] C.length (fun m v i wx => Rd2 wo L c C m v i wx)
        case atStart => exact ⟨0, by omega, rfl, own_nil _ _ _ _, Fr.refl _ _, rfl⟩
        case round =>
          obtain ⟨j, hj, rfl, hown2, hfr2, hmm⟩ := hrel
          have HM2 := hide hmm
          obtain ⟨A10, c10, rfl, -, -, -⟩ := own_slice hown2
          have HB2 := hide hown2
          clear hmm hown2
          by_cases hjl : j < C.length
          · obtain ⟨s, hs⟩ : ∃ s, C[j]? = some s := ⟨_, List.getElem?_eq_getElem hjl⟩
            have hji : (j : Int) < (C.length : Int) := by omega
            obtain ⟨A3', c3', e3, -, hrC, -⟩ := own_slice (own_fr HCO.out (hfr.call hfr2) (fun _ _ => by simp))
            obtain ⟨rfl, rfl⟩ : Ac = A3' ∧ cc = c3' := by injection e3 with e1 e2 e3; exact ⟨e1, e3⟩
            obtain ⟨ob, oo, rfl, q1⟩ := hrC.at_ (i := j) (u := nv s) (by rw [List.getElem?_map, hs]; rfl)
            have hsN := HCM.out s (List.mem_of_getElem? hs)
            have hsi : (s : Int) < (N : Int) := by omega
            obtain ⟨vs, hsv, -, hsown, -, -⟩ := (HLSr.out.fr0 hfr2).at_ (nbs_get false L hsN)
            obtain ⟨As, cs, rfl, -, hrS, -⟩ := own_slice hsown
            have HST := hide (HBS.out j s hs)
            have hbl := HBL.out j
            have hsl := nb_length_le false L s
            have HRS := hide hrS
            clear hs e3 hrC hsown hrS
            generalize nb false L s = D at hsv HST hsl HRS
            generalize beyTo L c j = B at HB2 HST hbl
            go_wp2_with (first
              | (at_builtin
                 refine wpList_append_row _ rfl (.tmp 38) (.tmp 42) _ rfl wo.heap.size 3 i1 (.int .i64 0) 1 8 Try.underlying50 HI1.out.1 HI1.out.2.1 HI1.out.2.2.1 HI1.out.2.2.2 rfl (by omega) (.slice A10 B.length c10) B.length (B.map nv) rfl
                   HB2.out As D.length cs (D.map nv) rfl (by simp) HRS.out (by intro u hu; obtain ⟨y, -, rfl⟩ := List.mem_map.1 hu; rfl) (by simp only [maxLen]; omega) (by omega) hfr2.size ?_
                 intro v1 w9 hown9 hg9 hat9))
            have hf9 : Fr [] wo w9 := hfr2.grown hg9 (fun y hy => .inr (own_block HB2.out hy).1)
            go_roundg (C.length - (j + 1))
            case measure => rw [HM2.out]; omega
            case rel =>
              refine ⟨j + 1, by omega, by go_num, ?_, hf9, rfl⟩
              rw [HST.out, List.length_append, List.map_append]
              exact hown9
          · have hji : ¬ (j : Int) < (C.length : Int) := by omega
            obtain rfl : j = C.length := by omega
            have hBA := HBA.out
            have hbl := HBL.out C.length
            rw [hBA] at HB2 hbl
            have hown2 := HB2.out
            obtain ⟨A4', c4', e4, -, hrB, -⟩ := own_slice hown2
            have e4' : A10 = A4' ∧ c10 = c4' := by
              injection e4 with e1 e2 e3
              exact ⟨e1, e3⟩
            obtain ⟨rfl, rfl⟩ := e4'
            have hreach := reach_any false L A10 c10 (beyL L c) (HLSr.out.fr0 hfr2) hrB HBM.out HLT.out hN (by omega) (by omega)
            rw [show ori false L = L from rfl] at hreach
            rw [hBA]
            clear hown2 e4 hrB hBA
            go_wp2_with fail
            refine hreach.mono ?_
            clear hreach
            rintro e w4 ⟨rb, rfl, hfa, hrb, hf4⟩
            rw [← HIB.out] at hfa
            generalize indB N L c = R at hfa HCC
            have HFA := hide hfa
            have hfr4 : Fr [] wo w4 := hfr2.call hf4
            have HK4 := hide (own_fr HK.out hfr4 (fun _ _ => by simp))
            have hfr24 := hfr.call hfr4
            have c4 : w4.cell? ⟨g, c, none⟩ = some (.slice Ac C.length cc) := hfr4.cell hcv (by simp)
            have hkl := HKL.out
            generalize keptTo N L c = K at HK4 HKS hkl
            clear hfa hcv HK HB2 hfr2 hf4 hfr4
            go_wp2
            clear c4
            go_loopg [8, 53] C.length (fun m v i wx => Rd3 w2 N rb R C c K m v i wx)
            case atStart => exact ⟨0, by omega, rfl, by simpa [kepU] using HK4.out, HFA.out, hfr24, rfl⟩
            case round =>
              clear HFA HK4 hfr24
              obtain ⟨q, hq, rfl, hown3, hfa3, hfr3, hmm⟩ := hrel
              have HM3 := hide hmm
              obtain ⟨A9, c9, rfl, -, -, -⟩ := own_slice hown3
              have HK3 := hide hown3
              have HFA3 := hide hfa3
              clear hmm hown3 hfa3
              by_cases hql : q < C.length
              · obtain ⟨s, hs⟩ : ∃ s, C[q]? = some s := ⟨_, List.getElem?_eq_getElem hql⟩
                have hqi : (q : Int) < (C.length : Int) := by omega
                obtain ⟨A3', c3', e3, -, hrC, -⟩ := own_slice (own_fr HCO.out hfr3 (fun _ _ => by simp))
                obtain ⟨rfl, rfl⟩ : Ac = A3' ∧ cc = c3' := by injection e3 with e1 e2 e3; exact ⟨e1, e3⟩
                obtain ⟨ob, oo, rfl, q1⟩ := hrC.at_ (i := q) (u := nv s) (by rw [List.getElem?_map, hs]; rfl)
                have hsN := HCM.out s (List.mem_of_getElem? hs)
                have hsi : (s : Int) < (N : Int) := by omega
                have r1 := HFA3.out.cell hsN
                have HKP := hide (kepU_step (R := R) (c := c) (K := K) hs)
                have hul : (kepU R C c K q).length ≤ 8000 := by
                  unfold kepU
                  rw [List.length_append, List.length_map]
                  have h1 := List.length_filter_le (fun s => !R s) (C.take q)
                  rw [List.length_take] at h1
                  omega
                clear hs e3 hrC
                generalize kepU R C c K q = U at HK3 HKP hul
                cases hR : R s with
                | true =>
                  rw [hR] at r1 HKP
                  rw [if_pos rfl] at HKP
                  clear hR
                  go_wp2
                  go_roundg (C.length - (q + 1))
                  case measure => rw [HM3.out]; omega
                  case rel => exact ⟨q + 1, by omega, by go_num, by rw [HKP.out]; exact HK3.out, HFA3.out, hfr3, rfl⟩
                | false =>
                  rw [hR] at r1 HKP
                  rw [if_neg (by decide)] at HKP
                  clear hR
                  have hsz : w2.heap.size ≤ wr.heap.size + 1 := by have := hfr3.size; omega
                  go_wp2_with (first
                    | (at_builtin
                       refine wpList_append_row _ rfl (.tmp 62) (.tmp 66) _ rfl w2.heap.size 41 i0 (.agg #[.int .i64 0, .int .i64 0]) 2 16 Try.underlying22 HI.out.1 HI.out.2.1 HI.out.2.2.1 HI.out.2.2.2 rfl (by omega) (.slice A9 U.length c9) U.length (pcs U) rfl
                         (own_fr HK3.out ((Fr.refl [] _).alloc _) (fun _ _ => by simp)) (some ⟨wr.heap.size, 0, none⟩) 1 1 [.int .i64 (c : Int), .int .i64 (s : Int)] rfl rfl (row_two2 wr _ _ _) (by intro u hu; simp at hu; rcases hu with rfl | rfl <;> rfl) (by simp only [maxLen]; omega) (by omega) (by simpa using hsz) ?_
                       intro v1 w9 hown9 hg9 hat9))
                  have hf39 : Fr (Value.slice A9 U.length c9).ownBlock.toList wr w9 := ((Fr.refl _ wr).alloc _).trans (Fr.of_grown hg9)
                  have hf9 : Fr [] w2 w9 := hfr3.step hf39 (fun y hy => .inr (own_block HK3.out (by simpa using hy)).1)
                  go_roundg (C.length - (q + 1))
                  case measure => rw [HM3.out]; omega
                  case rel =>
                    refine ⟨q + 1, by omega, by go_num, ?_, HFA3.out.fr hf39 (fun hm => ?_), hf9, rfl⟩
                    · rw [HKP.out, List.length_append, List.length_singleton, pcs_snoc]
                      exact hown9
                    · obtain ⟨_, _, cs, hb2⟩ := own_block HK3.out (show (Value.slice A9 U.length c9).ownBlock = some rb by simpa using hm)
                      exact Blk.ne_ hb2 HFA3.out (by decide) rfl
              · have hqi : ¬ (q : Int) < (C.length : Int) := by omega
                obtain rfl : q = C.length := by omega
                have HE : Hid (keptTo N L (c + 1) = kepU R C c K C.length) := hide (by
                  rw [HKS.out, HCC.out]
                  unfold kepU
                  rw [List.take_length])
                generalize kepU R C c K C.length = U at HK3 HE
                go_wp2
                go_roundg (N - (c + 1))
                case measure => rw [HM.out]; omega
                case rel => exact ⟨c + 1, by omega, by go_num, by rw [HE.out]; exact HK3.out, hfr3, rfl⟩
      · have hcl : ¬ (c : Int) < (N : Int) := by omega
        obtain rfl : c = N := by omega
        have HKL : Hid ((keptTo c L c).length ≤ 1000000) := hide (by
          have h1 : ∀ k, k ≤ 128 → (keptTo c L k).length ≤ k * 60 := fun k hk => by
            induction k with
            | zero => simp [keptTo]
            | succ k ih =>
              rw [keptTo_step, List.length_append, List.length_map]
              have h2 := ih (by omega)
              have h3 : (keptC c L k).length ≤ (nb false L k).length := List.length_filter_le _ _
              have h4 := nb_length_le false L k
              rw [Nat.add_mul]
              omega
          have := h1 c hN
          omega)
        have hwz := hfw2.size
        have hfwo := hfw2.call hfr
        generalize keptTo c L c = U at HK HKL HRM
        clear hc HM
        by_cases hU : 0 < U.length
        · obtain ⟨gk, rfl, hgb, hgl, -, -⟩ := own_at HK.out hU
          go_wp2_with fail
          refine (sort_any U HK.out HKL.out).mono ?_
          rintro e w9 ⟨rfl, hown9, hf9⟩
          have HO9 := hide hown9
          have hsl := sortL_length U
          have hfin : Fr [] w w9 := hfwo.step hf9 (fun y hy => .inr (by rw [List.mem_singleton.1 hy]; omega))
          clear hown9 hf9
          go_wp2
          go_ret2
          refine ⟨.slice (some ⟨gk, 0, none⟩) U.length c8, by rw [HRM.out]; rfl, ?_, hfin⟩
          rw [HRM.out]
          show w9.ownsRow _ _ _ _ (sortL U).length _
          rw [hsl]
          exact own_base HO9.out hwz
        · have hU0 : U = [] := List.length_eq_zero_iff.1 (by omega)
          subst hU0
          rw [List.length_nil] at HK ⊢
          go_wp2_with fail
          refine (sort_none c8 A8 wo).mono ?_
          rintro e w9 ⟨rfl, rfl⟩
          go_wp2
          go_ret2
          refine ⟨.slice A8 0 c8, by rw [HRM.out]; rfl, ?_, hfwo⟩
          rw [HRM.out]
          show w9.ownsRow _ _ _ _ (sortL []).length (pcs (sortL []))
          rw [sortL_nil]
          exact own_base HK.out hwz
  · have hne : (checkM n l != 0) = true := by simp [hb]
    have HRM : Hid (redM n l = ([], checkM n l)) := hide (by unfold redM; rw [if_neg hb])
    clear hb
    go_wp2
    go_ret2
    exact ⟨.slice none 0 0, by rw [HRM.out]; rfl, by rw [HRM.out]; exact own_nil _ _ _ _, hf1⟩
end Go.Proofs.Ytkbfnhkcmelneaa

