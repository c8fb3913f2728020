/- Walks over the reference of layer 24: Reduce. -/
import Derived.Test.YtnfhiadhpbojkaaRedW3Mg
import Derived.Test.YtnfhiadhpbojkaaGraR4Mg
namespace Go.Proofs.Ytnfhiadhpbojkaa
open Go.RowKit

section
variable (N : Nat) (L : List (Nat × Nat))
def dirT (c s j : Nat) : Bool := (L.take j).any fun p => p.1 == c && p.2 == s
def othT (c s j : Nat) : Bool := (L.take j).any fun p => p.1 == c && (!(p.2 == s) && wmat L N p.2 s)
def rowOk (c s : Nat) : Bool := dirT L c s L.length && !othT N L c s L.length
def rowT (c j : Nat) : List (Int × Int) := ((List.range j).filter (rowOk N L c)).map (lnk c)
def refTo (k : Nat) : List (Int × Int) := (List.range k).flatMap fun c => rowT N L c N
end
theorem any_step {L : List (Nat × Nat)} {j : Nat} {p : Nat × Nat} (h : L[j]? = some p) (f : Nat × Nat → Bool) : (L.take (j + 1)).any f = ((L.take j).any f || f p) := by
  rw [take_succ_some h, List.any_append]
  simp
theorem rowT_step (N : Nat) (L : List (Nat × Nat)) (c j : Nat) : rowT N L c (j + 1) = if rowOk N L c j then rowT N L c j ++ [lnk c j] else rowT N L c j := by
  unfold rowT
  rw [List.range_succ, List.filter_append, List.map_append]
  cases h : rowOk N L c j <;> simp [h]
theorem refTo_step (N : Nat) (L : List (Nat × Nat)) (k : Nat) : refTo N L (k + 1) = refTo N L k ++ rowT N L k N := by
  unfold refTo
  rw [List.range_succ, List.flatMap_append]
  simp
def rredM (n : Int) (l : List (Int × Int)) : List (Int × Int) × Int := if checkM n l = 0 then (refTo n.toNat (toNs l) n.toNat, 0) else ([], checkM n l)
def RRedRet (w : World) (n : Int) (l : List (Int × Int)) (e : Ending) (w' : World) : Prop :=
  ∃ v, e = .returned (.tuple #[v, .int .i64 (rredM n l).2]) ∧ w'.ownsRow w.heap.size 34 2 v (rredM n l).1.length (pcs (rredM n l).1) ∧ Fr [] w w'
def Rr1 (w2 : World) (N : Nat) (L : List (Nat × Nat)) (m : Nat) (v i : Value) (wr : World) : Prop :=
  ∃ k : Nat, k ≤ N ∧ i = .int .i64 (k : Int) ∧ wr.ownsRow w2.heap.size 34 2 v (refTo N L k).length (pcs (refTo N L k)) ∧ Fr [] w2 wr ∧ m = N - k
def Rr2 (w2 : World) (N : Nat) (L : List (Nat × Nat)) (K : List (Int × Int)) (c : Nat) (m : Nat) (v i : Value) (wr : World) : Prop :=
  ∃ j : Nat, j ≤ N ∧ i = .int .i64 (j : Int) ∧ wr.ownsRow w2.heap.size 34 2 v (K ++ rowT N L c j).length (pcs (K ++ rowT N L c j)) ∧ Fr [] w2 wr ∧ m = N - j
def Rr3 (wo : World) (N : Nat) (L : List (Nat × Nat)) (c s : Nat) (m : Nat) (d o i : Value) (wr : World) : Prop :=
  ∃ q : Nat, q ≤ L.length ∧ d = .bool (dirT L c s q) ∧ o = .bool (othT N L c s q) ∧ i = .int .i64 (q : Int) ∧ wo = wr ∧ m = L.length - q
theorem rowT_len (N : Nat) (L : List (Nat × Nat)) (c j : Nat) : (rowT N L c j).length ≤ j := by
  unfold rowT
  rw [List.length_map]
  have := List.length_filter_le (rowOk N L c) (List.range j)
  simpa using this
theorem refTo_len (N : Nat) (L : List (Nat × Nat)) (k : Nat) : (refTo N L k).length ≤ k * N := by
  induction k with
  | zero => simp [refTo]
  | succ k ih =>
    rw [refTo_step, List.length_append, Nat.add_mul]
    have := rowT_len N L k N
    omega
set_option maxHeartbeats 8000000 in
set_option maxRecDepth 100000 in
theorem rreduce_any (n : Int) (A : Option Addr) (cp : Nat) (l : List (Int × Int)) (w : World) (hr : Row w A (pcs l)) (hm : l.length ≤ 4096) :
    Calls Try.prog 34 #[.int .i64 n, .slice A l.length cp] w (RRedRet w n l) := by
  have HR := hide hr
  obtain ⟨i0, hi0, hz0, hz1, hz2⟩ := info_parts link_info2
  have HI := hide (And.intro hi0 (And.intro hz0 (And.intro hz1 hz2)))
  clear hr hi0 hz0 hz1 hz2
  go_enter Try.func34, Try.ntmps34
  go_wp2_with fail
  refine (rcheck_any24 n A cp l w HR.out hm).mono ?_
  rintro e w1 ⟨rfl, hf1⟩
  by_cases hb : checkM n l = 0
  · have hbas : basicM n l = 0 := by
      apply Classical.byContradiction
      intro h
      unfold checkM orderM at hb
      rw [if_neg h] at hb
      exact h hb
    obtain ⟨hok, -⟩ := basicM_zero hbas
    obtain ⟨N, rfl⟩ := Int.eq_ofNat_of_zero_le hok.1
    have hN : N ≤ 128 := by have := hok.2.1; omega
    have HRM : Hid (rredM (N : Int) l = (refTo N (toNs l) N, 0)) := hide (by unfold rredM; rw [if_pos hb, Int.toNat_natCast])
    rw [hb]
    have HLN : Hid (∀ (k : Nat) (p : Int × Int), l[k]? = some p → ∃ a b : Nat, p = ((a : Int), (b : Int)) ∧ a < N ∧ b < N ∧ (toNs l)[k]? = some (a, b)) := hide (fun k p hp => by
      have h1 := hok.2.2.2 p (List.mem_of_getElem? hp)
      obtain ⟨x, y⟩ := p
      obtain ⟨a, rfl⟩ := Int.eq_ofNat_of_zero_le h1.1
      obtain ⟨b, rfl⟩ := Int.eq_ofNat_of_zero_le h1.2.2.1
      refine ⟨a, b, rfl, by have := h1.2.1; simp at this; omega, by have := h1.2.2.2; simp at this; omega, ?_⟩
      unfold toNs
      rw [List.getElem?_map, hp]
      rfl)
    have hLl : (toNs l).length = l.length := by simp [toNs]
    clear hb hbas
    go_wp2_with fail
    refine (rmatrix_any N A cp l w1 (HR.out.fr0 hf1) hok).mono ?_
    rintro e w2 ⟨g, rfl, hmat, hf2⟩
    have HMAT := hide hmat
    have hfw2 := hf1.call hf2
    clear hmat hok
    generalize toNs l = L at HRM HLN hLl HMAT
    have HLL := hide hLl
    go_wp2
    go_loopg [8, 9] N (fun m v i wr => Rr1 w2 N L m v i wr)
    case atStart => exact ⟨0, by omega, rfl, own_nil _ _ _ _, Fr.refl _ _, rfl⟩
    case round =>
      obtain ⟨c, hc, rfl, hown, hfr, hmm⟩ := hrel
      have HM := hide hmm
      obtain ⟨A8, c8, rfl, -, -, -⟩ := own_slice hown
      have HK := hide hown
      clear hmm hown
      by_cases hlt : c < N
      · have hcl : (c : Int) < (N : Int) := by omega
        have HST := hide (refTo_step N L c)
        have hkl := refTo_len N L c
        have hkl2 : c * N ≤ 128 * 128 := Nat.mul_le_mul (by omega) hN
        generalize refTo N L c = K at HK HST hkl
        go_wp2
        go_loopg [8, 10] N (fun m v i wx => Rr2 w2 N L K c m v i wx)
        case atStart => exact ⟨0, by omega, rfl, by simpa [rowT] using HK.out, hfr, rfl⟩
        case round =>
          clear HK hfr
          obtain ⟨s, hs, rfl, hown2, hfr, hmm⟩ := hrel
          have HM2 := hide hmm
          obtain ⟨A9, c9, rfl, -, -, -⟩ := own_slice hown2
          have HK2 := hide hown2
          clear hmm hown2
          obtain ⟨wo, rfl⟩ : ∃ wo : World, wo = wr := ⟨_, rfl⟩
          have hfwo := hfw2.call hfr
          by_cases hsl : s < N
          · have hsi : (s : Int) < (N : Int) := by omega
            have HRT := hide (rowT_step N L c s)
            have HRO := hide (show rowOk N L c s = (dirT L c s L.length && !othT N L c s L.length) from rfl)
            have hul : (K ++ rowT N L c s).length ≤ 20000 := by
              rw [List.length_append]
              have := rowT_len N L c s
              omega
            generalize hUe : K ++ rowT N L c s = U at HK2 hul ⊢
            have HUE := hide hUe
            clear hUe
            have HMC := hide (fun (b : Nat) (hb : b < N) => (HMAT.out.fr0 hfr).at_ hb)
            go_wp2
            go_loopg [11, 12, 13] L.length (fun m d o i wx => Rr3 wo N L c s m d o i wx)
            case atStart => exact ⟨0, by omega, rfl, rfl, rfl, rfl, rfl⟩
            case round =>
              obtain ⟨q, hq, rfl, rfl, rfl, rfl, hmm⟩ := hrel
              have HM3 := hide hmm
              clear hmm
              by_cases hql : q < l.length
              · obtain ⟨p, hp⟩ : ∃ p, l[q]? = some p := ⟨_, List.getElem?_eq_getElem hql⟩
                obtain ⟨a, b, rfl, han, hbn, hpn⟩ := HLN.out q p hp
                obtain ⟨ob, oo, rfl, q0, q1⟩ := (HR.out.fr0 hfwo).link hp
                have hqi : (q : Int) < (l.length : Int) := by omega
                have HD := hide (any_step hpn fun p => p.1 == c && p.2 == s)
                have HO := hide (any_step hpn fun p => p.1 == c && (!(p.2 == s) && wmat L N p.2 s))
                have HD2 : Hid (dirT L c s (q + 1) = (dirT L c s q || (a == c && b == s))) := hide HD.out
                have HO2 : Hid (othT N L c s (q + 1) = (othT N L c s q || (a == c && (!(b == s) && wmat L N b s)))) := hide HO.out
                clear hp hpn HD HO
                generalize dirT L c s q = dq at HD2 ⊢
                generalize othT N L c s q = oq at HO2 ⊢
                by_cases hac : a = c
                · subst hac
                  have e1 : ((a : Int) != (a : Int)) = false := by simp
                  rw [show (a == a) = true by simp, Bool.true_and] at HD2 HO2
                  by_cases hbs : b = s
                  · subst hbs
                    have e2 : ((b : Int) == (b : Int)) = true := by simp
                    rw [show (b == b) = true by simp] at HD2 HO2
                    rw [Bool.or_true] at HD2
                    rw [show (!true && wmat L N b b) = false from rfl, Bool.or_false] at HO2
                    go_wp2
                    go_roundg (L.length - (q + 1))
                    case measure => rw [HM3.out, HLL.out]; omega
                    case rel => exact ⟨q + 1, by rw [HLL.out]; omega, by rw [HD2.out], by rw [HO2.out], by go_num, rfl, rfl⟩
                  · have e2 : ((b : Int) == (s : Int)) = false := by simp; omega
                    have e3 : (b == s) = false := by simp; omega
                    have e4 : ¬ (b : Int) = (s : Int) := by omega
                    rw [e3, Bool.or_false] at HD2
                    rw [e3, show (!false && wmat L N b s) = wmat L N b s from Bool.true_and _] at HO2
                    obtain ⟨bb, hm1, hm2, -, -, -, -, -⟩ := HMC.out b hbn
                    have hm3 := hm2 s hsl
                    have hbi : (b : Int) < (N : Int) := by omega
                    clear hm2 e3
                    cases hw : wmat L N b s with
                    | true =>
                      rw [hw] at hm3 HO2
                      rw [Bool.or_true] at HO2
                      clear hw
                      go_wp2
                      go_roundg (L.length - (q + 1))
                      case measure => rw [HM3.out, HLL.out]; omega
                      case rel => exact ⟨q + 1, by rw [HLL.out]; omega, by rw [HD2.out], by rw [HO2.out], by go_num, rfl, rfl⟩
                    | false =>
                      rw [hw] at hm3 HO2
                      rw [Bool.or_false] at HO2
                      clear hw
                      go_wp2
                      go_roundg (L.length - (q + 1))
                      case measure => rw [HM3.out, HLL.out]; omega
                      case rel => exact ⟨q + 1, by rw [HLL.out]; omega, by rw [HD2.out], by rw [HO2.out], by go_num, rfl, rfl⟩
                · have e1 : ((a : Int) != (c : Int)) = true := by simp; omega
                  have e2 : (a == c) = false := by simp; omega
                  have e3 : ¬ (a : Int) = (c : Int) := by omega
                  rw [e2, Bool.false_and, Bool.or_false] at HD2 HO2
                  clear e2
                  go_wp2
                  go_roundg (L.length - (q + 1))
                  case measure => rw [HM3.out, HLL.out]; omega
                  case rel => exact ⟨q + 1, by rw [HLL.out]; omega, by rw [HD2.out], by rw [HO2.out], by go_num, rfl, rfl⟩
              · have hqi : ¬ (q : Int) < (l.length : Int) := by omega
                obtain rfl : q = L.length := by omega
                generalize dirT L c s L.length = dq at HRO ⊢
                generalize othT N L c s L.length = oq at HRO ⊢
                have hfin : ∀ b, rowOk N L c s = b → (K ++ rowT N L c (s + 1)) = if b then U ++ [lnk c s] else U := fun b hb => by
                  rw [HRT.out, hb, ← HUE.out]
                  cases b <;> simp
                have HFIN := hide hfin
                clear hfin
                cases hdo : (dq && !oq) with
                | false =>
                  have hU := HFIN.out false (by rw [HRO.out, hdo])
                  rw [if_neg (by decide)] at hU
                  have HU := hide hU
                  clear hU
                  cases dq
                  · clear hdo
                    go_wp2
                    go_roundg (N - (s + 1))
                    case measure => rw [HM2.out]; omega
                    case rel => exact ⟨s + 1, by omega, by go_num, by rw [HU.out]; exact HK2.out, hfr, rfl⟩
                  · cases oq
                    · cases hdo
                    · clear hdo
                      go_wp2
                      go_roundg (N - (s + 1))
                      case measure => rw [HM2.out]; omega
                      case rel => exact ⟨s + 1, by omega, by go_num, by rw [HU.out]; exact HK2.out, hfr, rfl⟩
                | true =>
                  have hU := HFIN.out true (by rw [HRO.out, hdo])
                  rw [if_pos rfl] at hU
                  have HU := hide hU
                  obtain ⟨rfl, rfl⟩ : dq = true ∧ oq = false := by cases dq <;> cases oq <;> simp at hdo ⊢
                  have hsz : w2.heap.size ≤ wo.heap.size + 1 := by have := hfr.size; omega
                  clear hU hdo
                  go_wp2_with (first
                    | (at_builtin
                       refine wpList_append_row _ rfl (.tmp 69) (.tmp 73) _ rfl w2.heap.size 34 i0 (.agg #[.int .i64 0, .int .i64 0]) 2 16 Try.underlying22 HI.out.1 HI.out.2.1 HI.out.2.2.1 HI.out.2.2.2 rfl (by omega) (.slice A9 U.length c9) U.length (pcs U) rfl
                         (own_fr HK2.out ((Fr.refl [] _).alloc _) (fun _ _ => by simp)) (some ⟨wo.heap.size, 0, none⟩) 1 1 [.int .i64 (c : Int), .int .i64 (s : Int)] rfl rfl (row_two2 wo _ _ _) (by intro u hu; simp at hu; rcases hu with rfl | rfl <;> rfl) (by simp only [maxLen]; omega) (by omega) (by simpa using hsz) ?_
                       intro v1 w9 hown9 hg9 hat9))
                  have hf39 : Fr (Value.slice A9 U.length c9).ownBlock.toList wo w9 := ((Fr.refl _ wo).alloc _).trans (Fr.of_grown hg9)
                  have hf9 : Fr [] w2 w9 := hfr.step hf39 (fun y hy => .inr (own_block HK2.out (by simpa using hy)).1)
                  go_roundg (N - (s + 1))
                  case measure => rw [HM2.out]; omega
                  case rel =>
                    refine ⟨s + 1, by omega, by go_num, ?_, hf9, rfl⟩
                    rw [HU.out, List.length_append, List.length_singleton, pcs_snoc]
                    exact hown9
          · have hsi : ¬ (s : Int) < (N : Int) := by omega
            obtain rfl : s = N := by omega
            rw [← HST.out] at HK2
            have hKT := HK2.out
            have e8 : (K ++ rowT s L c s).length = (refTo s L (c + 1)).length := by rw [HST.out]
            rw [e8]
            have HK3 := hide hKT
            clear hKT e8
            go_wp2
            go_roundg (s - (c + 1))
            case measure => rw [HM.out]; omega
            case rel => exact ⟨c + 1, by omega, by go_num, HK3.out, hfr, rfl⟩
      · have hcl : ¬ (c : Int) < (N : Int) := by omega
        obtain rfl : c = N := by omega
        have hfwo := hfw2.call hfr
        have hwz := hfw2.size
        generalize refTo c L c = U at HK HRM
        go_wp2
        go_ret2
        refine ⟨.slice A8 U.length c8, by rw [HRM.out]; rfl, ?_, hfwo⟩
        rw [HRM.out]
        exact own_base HK.out hwz
  · have hne : (checkM n l != 0) = true := by simp [hb]
    have HRM : Hid (rredM n l = ([], checkM n l)) := hide (by unfold rredM; rw [if_neg hb])
    clear hb
    go_wp2
    go_ret2
    exact ⟨.slice none 0 0, by rw [HRM.out]; rfl, by rw [HRM.out]; exact own_nil _ _ _ _, hf1⟩
end Go.Proofs.Ytnfhiadhpbojkaa

