/- Walks (Order alone): depgraph.Check, depgraph.Order. -/
import Derived.Test.YtdocdgghphhdpaaGraW3Mg
namespace Go.Proofs.Ytdocdgghphhdpaa
open Go.RowKit

/-- The order and the error. -/
def orderM (n : Int) (l : List (Int × Int)) : List Nat × Int :=
  if basicM n l = 0 then (if (greedy n.toNat (toNs l)).length = n.toNat then (greedy n.toNat (toNs l), 0) else ([], 18)) else ([], basicM n l)
def checkM (n : Int) (l : List (Int × Int)) : Int := (orderM n l).2
def OrderRet (w : World) (n : Int) (l : List (Int × Int)) (e : Ending) (w' : World) : Prop :=
  ∃ v, e = .returned (.tuple #[v, .int .i64 (orderM n l).2]) ∧ w'.ownsRow w.heap.size 3 1 v (orderM n l).1.length ((orderM n l).1.map nv) ∧ Fr [] w w'

theorem tup2 {a b c d : Value} (h1 : a = c) (h2 : b = d) : Ending.returned (.tuple #[a, b]) = .returned (.tuple #[c, d]) := by rw [h1, h2]

set_option maxHeartbeats 1000000 in
theorem order_any24 (n : Int) (A : Option Addr) (cp : Nat) (l : List (Int × Int)) (w : World) (hr : Row w A (pcs l)) (hm : l.length ≤ 4096) :
    Calls Try.prog 37 #[.int .i64 n, .slice A l.length cp] w (OrderRet w n l) := by
  have HR := hide hr
  clear hr
  go_enter Try.func37, Try.ntmps37
  go_wp2_with fail
  refine (checkLinks_any n A cp l w HR.out hm).mono ?_
  rintro e w1 ⟨rfl, hf1⟩
  by_cases hb : basicM n l = 0
  · obtain ⟨hok, hnd⟩ := basicM_zero hb
    obtain ⟨N, rfl⟩ := Int.eq_ofNat_of_zero_le hok.1
    rw [hb]
    have HB := hide hb
    have HOK := hide hok
    clear hb hok hnd
    go_wp2_with fail
    refine (sequence_any N A cp l w1 (HR.out.fr0 hf1) HOK.out).mono ?_
    rintro e w2 ⟨v, rfl, hown, hf2⟩
    have hgl := (greedy_ok N (toNs l)).length_le
    obtain ⟨o, ho⟩ : ∃ o, o = greedy N (toNs l) := ⟨_, rfl⟩
    rw [← ho] at hown hgl
    have hN : N ≤ 128 := by have := HOK.out.2.1; omega
    obtain ⟨A2, c2, rfl, -, -, -⟩ := own_slice hown
    have HO := hide ho
    have HOWN := hide (own_base hown hf1.size)
    clear ho hown
    by_cases hl : o.length = N
    · have hne : ((o.length : Int) != (N : Int)) = false := by simp [hl]
      have hm1 : orderM (N : Int) l = (o, 0) := by
        unfold orderM
        rw [HB.out, if_pos rfl, Int.toNat_natCast, ← HO.out, if_pos hl]
      have HM1 := hide hm1
      clear hl hm1
      go_wp2
      go_ret2
      exact ⟨.slice A2 o.length c2, by rw [HM1.out]; rfl, by rw [HM1.out]; exact own_fr HOWN.out (Fr.refl [] _) (fun _ _ => by simp), hf1.call hf2⟩
    · have hne : ((o.length : Int) != (N : Int)) = true := by simp; omega
      have hm1 : orderM (N : Int) l = ([], 18) := by
        unfold orderM
        rw [HB.out, if_pos rfl, Int.toNat_natCast, ← HO.out, if_neg hl]
      have HM1 := hide hm1
      clear hl hm1
      go_wp2
      go_ret2
      exact ⟨.slice none 0 0, by rw [HM1.out]; rfl, by rw [HM1.out]; exact own_nil _ _ _ _, hf1.call hf2⟩
  · have hne : (basicM n l != 0) = true := by simp [hb]
    have hm1 : orderM n l = ([], basicM n l) := by
      unfold orderM
      rw [if_neg hb]
    have HM1 := hide hm1
    clear hm1 hb
    go_wp2
    go_ret2
    exact ⟨.slice none 0 0, by rw [HM1.out]; rfl, by rw [HM1.out]; exact own_nil _ _ _ _, hf1⟩

theorem orderM_ok {N : Nat} {l : List (Int × Int)} (hb : basicM (N : Int) l = 0) (h : (greedy N (toNs l)).length = N) : orderM (N : Int) l = (greedy N (toNs l), 0) := by
  unfold orderM
  rw [hb, if_pos rfl, Int.toNat_natCast, if_pos h]
/-- If there is no error, the order takes every node. -/
theorem orderM_zero {n : Int} {l : List (Int × Int)} (h : (orderM n l).2 = 0) : ∃ N : Nat, n = N ∧ N ≤ 128 ∧ LinksOk (N : Int) l ∧ l.Nodup ∧ basicM (N : Int) l = 0 ∧ (greedy N (toNs l)).length = N ∧ orderM (N : Int) l = (greedy N (toNs l), 0) := by
  by_cases hb : basicM n l = 0
  · obtain ⟨hok, hnd⟩ := basicM_zero hb
    obtain ⟨N, rfl⟩ := Int.eq_ofNat_of_zero_le hok.1
    have hN : N ≤ 128 := by have := hok.2.1; omega
    by_cases hf : (greedy N (toNs l)).length = N
    · refine ⟨N, rfl, hN, hok, hnd, hb, hf, ?_⟩
      unfold orderM
      rw [hb, if_pos rfl, Int.toNat_natCast, if_pos hf]
    · unfold orderM at h
      rw [hb, if_pos rfl, Int.toNat_natCast, if_neg hf] at h
      cases h
  · unfold orderM at h
    rw [if_neg hb] at h
    exact absurd h hb
end Go.Proofs.Ytdocdgghphhdpaa

/- Walks: depgraph.Check. -/
namespace Go.Proofs.Ytdocdgghphhdpaa
open Go.RowKit

set_option maxHeartbeats 1000000 in
theorem check_any24 (n : Int) (A : Option Addr) (cp : Nat) (l : List (Int × Int)) (w : World) (hr : Row w A (pcs l)) (hm : l.length ≤ 4096) :
    Calls Try.prog 102 #[.int .i64 n, .slice A l.length cp] w fun e w' => e = .returned (.int .i64 (checkM n l)) ∧ Fr [] w w' := by
  have HR := hide hr
  clear hr
  go_enter Try.func102, Try.ntmps102
  go_wp2_with fail
  refine (checkLinks_any n A cp l w HR.out hm).mono ?_
  rintro e w1 ⟨rfl, hf1⟩
  by_cases hb : basicM n l = 0
  · obtain ⟨hok, hnd⟩ := basicM_zero hb
    obtain ⟨N, rfl⟩ := Int.eq_ofNat_of_zero_le hok.1
    rw [hb]
    have HB := hide hb
    have HOK := hide hok
    clear hb hok hnd
    go_wp2_with fail
    refine (sequence_any N A cp l w1 (HR.out.fr0 hf1) HOK.out).mono ?_
    rintro e w2 ⟨v, rfl, hown, hf2⟩
    have hgl := (greedy_ok N (toNs l)).length_le
    obtain ⟨o, ho⟩ : ∃ o, o = greedy N (toNs l) := ⟨_, rfl⟩
    rw [← ho] at hown hgl
    have hN : N ≤ 128 := by have := HOK.out.2.1; omega
    obtain ⟨A2, c2, rfl, -, -, -⟩ := own_slice hown
    have HO := hide ho
    clear ho hown
    by_cases hl : o.length = N
    · have hne : ((o.length : Int) != (N : Int)) = false := by simp [hl]
      have hm1 : checkM (N : Int) l = 0 := by
        unfold checkM orderM
        rw [HB.out, if_pos rfl, Int.toNat_natCast, ← HO.out, if_pos hl]
      have HM1 := hide hm1
      clear hl hm1
      go_wp2
      go_ret
      exact ⟨ret_int HM1.out.symm, hf1.call hf2⟩
    · have hne : ((o.length : Int) != (N : Int)) = true := by simp; omega
      have hm1 : checkM (N : Int) l = 18 := by
        unfold checkM orderM
        rw [HB.out, if_pos rfl, Int.toNat_natCast, ← HO.out, if_neg hl]
      have HM1 := hide hm1
      clear hl hm1
      go_wp2
      go_ret
      exact ⟨ret_int HM1.out.symm, hf1.call hf2⟩
  · have hne : (basicM n l != 0) = true := by simp [hb]
    have hm1 : checkM n l = basicM n l := by
      unfold checkM orderM
      rw [if_neg hb]
    have HM1 := hide hm1
    clear hm1 hb
    go_wp2
    go_ret
    exact ⟨ret_int HM1.out.symm, hf1⟩
end Go.Proofs.Ytdocdgghphhdpaa

