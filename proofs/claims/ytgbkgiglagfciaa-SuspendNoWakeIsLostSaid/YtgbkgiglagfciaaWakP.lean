/- Plain: sources without an event, and what an event does. -/
import Derived.Test.YtgbkgiglagfciaaWakM
namespace Go.Proofs.Ytgbkgiglagfciaa
open Go.RowKit

def wsz (n : Nat) : WS := ⟨fun _ => false, fun _ => false, fun _ => 0, n, false, 0, 0, false, 0, 0⟩
/-- No event has begun since the sources were armed. -/
structure Q0 (s : WS) (n : Nat) : Prop where
  na : ∀ i, s.a i = false
  al : s.al = false
  ar : s.ar = true
  rm : s.rm = 0
  ev : s.ev = 0
  n : s.n = n
  ck : s.ck = 0
theorem quiet_advL {s : WS} {now : Nat} (h : ∀ i, s.a i = false) : ∀ k, advL now s k = s
  | 0 => rfl
  | k + 1 => by
    rw [advL_succ, quiet_advL h k]
    simp [stepE, h k]
theorem quiet_adv {s : WS} {now : Nat} (h : ∀ i, s.a i = false) (ha : s.al = false) : advM now s = { s with ck := now } := by
  unfold advM
  rw [quiet_advL (s := { s with ck := now }) h]
  simp [alM, ha]
theorem quiet_cnt {s : WS} (h : ∀ i, s.a i = false) (m : Nat) : cntM s m = 0 := by
  unfold cntM
  rw [List.length_eq_zero_iff, List.filter_eq_nil_iff]
  intro x _
  simp [h x]
theorem cnt_pos {s : WS} {k m : Nat} (hk : k < m) (h : s.a k = true) : 0 < cntM s m := by
  unfold cntM
  exact List.length_pos_of_mem (List.mem_filter.2 ⟨List.mem_range.2 hk, h⟩)
theorem q0_arm (n : Nat) : Q0 { advM 0 (wsz n) with ar := true, rm := 0 } n := by
  rw [quiet_adv (s := wsz n) (fun _ => rfl) rfl]
  exact ⟨fun _ => rfl, rfl, rfl, rfl, rfl, rfl, rfl⟩
theorem stepE_keep {now : Nat} {s : WS} {i : Nat} : (stepE now s i).al = s.al ∧ (stepE now s i).at_ = s.at_ ∧ (stepE now s i).ar = s.ar ∧ (stepE now s i).rm = s.rm ∧ (stepE now s i).n = s.n := by
  unfold stepE
  split <;> exact ⟨rfl, rfl, rfl, rfl, rfl⟩
theorem advL_keep {now : Nat} {s : WS} : ∀ k, (advL now s k).al = s.al ∧ (advL now s k).at_ = s.at_ ∧ (advL now s k).ar = s.ar ∧ (advL now s k).rm = s.rm ∧ (advL now s k).n = s.n
  | 0 => ⟨rfl, rfl, rfl, rfl, rfl⟩
  | k + 1 => by
    obtain ⟨a1, a2, a3, a4, a5⟩ := stepE_keep (now := now) (s := advL now s k) (i := k)
    obtain ⟨b1, b2, b3, b4, b5⟩ := advL_keep (now := now) (s := s) k
    rw [advL_succ]
    exact ⟨a1.trans b1, a2.trans b2, a3.trans b3, a4.trans b4, a5.trans b5⟩
theorem advL_far {now : Nat} {s : WS} {q : Nat} : ∀ k, k ≤ q → (advL now s k).a q = s.a q ∧ (advL now s k).h q = s.h q ∧ (advL now s k).t q = s.t q
  | 0, _ => ⟨rfl, rfl, rfl⟩
  | k + 1, hk => by
    obtain ⟨b1, b2, b3⟩ := advL_far (now := now) (s := s) (q := q) k (by omega)
    have hne : q ≠ k := by omega
    rw [advL_succ]
    unfold stepE
    split
    · refine ⟨?_, ?_, ?_⟩
      · exact (upd_other hne).trans b1
      · exact (upd_other hne).trans b2
      · exact (upd_other hne).trans b3
    · exact ⟨b1, b2, b3⟩
theorem advL_mono {now : Nat} {s : WS} {j : Nat} : ∀ k, j ≤ k → (advL now s j).ev ≤ (advL now s k).ev
  | 0, h => by
    obtain rfl : j = 0 := by omega
    exact Nat.le_refl _
  | k + 1, h => by
    by_cases e : j = k + 1
    · rw [e]; exact Nat.le_refl _
    · have h1 := advL_mono (now := now) (s := s) (j := j) k (by omega)
      have h2 := (stepE_ev (now := now) (s := advL now s k) (i := k)).1
      rw [advL_succ]
      omega
theorem alM_keep {now : Nat} {s : WS} : (alM now s).ar = s.ar ∧ (alM now s).rm = s.rm ∧ s.ev ≤ (alM now s).ev := by
  unfold alM
  split
  · exact ⟨rfl, rfl, Nat.le_succ _⟩
  · exact ⟨rfl, rfl, Nat.le_refl _⟩
theorem advM_keep {now : Nat} {s : WS} : (advM now s).ar = s.ar ∧ (advM now s).rm = s.rm ∧ s.ev ≤ (advM now s).ev := by
  obtain ⟨a1, a2, a3⟩ := alM_keep (now := now) (s := advL now { s with ck := now } s.n)
  obtain ⟨-, -, b3, b4, -⟩ := advL_keep (now := now) (s := { s with ck := now }) s.n
  have b6 := advL_mono (now := now) (s := { s with ck := now }) (j := 0) s.n (by omega)
  exact ⟨a1.trans b3, a2.trans b4, Nat.le_trans b6 a3⟩
/-- A source whose time has come fires. -/
theorem adv_fire {now k : Nat} {s : WS} (hk : k < s.n) (h1 : s.a k = true) (h2 : s.h k = true) (h3 : s.t k ≤ now) : s.ev < (advM now s).ev := by
  obtain ⟨-, -, a3⟩ := alM_keep (now := now) (s := advL now { s with ck := now } s.n)
  obtain ⟨b1, b2, b3⟩ := advL_far (now := now) (s := { s with ck := now }) (q := k) k (Nat.le_refl _)
  have b6 := advL_mono (now := now) (s := { s with ck := now }) (j := 0) k (by omega)
  have b7 := advL_mono (now := now) (s := { s with ck := now }) (j := k + 1) s.n (by omega)
  have b8 : (advL now { s with ck := now } (k + 1)).ev = (advL now { s with ck := now } k).ev + 1 := by
    rw [advL_succ]
    generalize advL now { s with ck := now } k = x at b1 b2 b3
    have hc : (x.a k && x.h k && decide (x.t k ≤ now)) = true := by
      rw [b1, b2, b3]
      simp [h1, h2, h3]
    rw [stepE, if_pos hc]
    rfl
  have b9 : (advL now { s with ck := now } 0).ev = s.ev := rfl
  unfold advM
  omega
theorem adv_alarm {now : Nat} {s : WS} (h1 : s.al = true) (h2 : s.at_ ≤ now) : s.ev < (advM now s).ev := by
  obtain ⟨b1, b2, -, -, -⟩ := advL_keep (now := now) (s := { s with ck := now }) s.n
  have b6 := advL_mono (now := now) (s := { s with ck := now }) (j := 0) s.n (by omega)
  have b9 : (advL now { s with ck := now } 0).ev = s.ev := rfl
  unfold advM
  generalize advL now { s with ck := now } s.n = x at b1 b2 b6
  have hc : (x.al && decide (x.at_ ≤ now)) = true := by
    rw [b1, b2]
    simp [h1, h2]
  rw [alM, if_pos hc]
  simp only
  omega
def mustP (s : WS) : Bool := s.ar && (s.ev != s.rm || decide (0 < cntM s 32))
theorem must_no {s : WS} {n : Nat} (h : Q0 s n) : mustP s = false := by
  unfold mustP
  rw [h.ev, h.rm, quiet_cnt h.na]
  simp
theorem must_ev {s : WS} (h1 : s.ar = true) (h2 : s.rm < s.ev) : mustP s = true := by
  unfold mustP
  have : (s.ev != s.rm) = true := by simp; omega
  rw [h1, this]
  rfl
theorem must_act {s : WS} {n k now : Nat} (h : Q0 s n) (hk : k < 32) : mustP (relM { advM now s with a := upd (advM now s).a k true } k) = true := by
  rw [quiet_adv h.na h.al]
  have hc : 0 < cntM (relM { { s with ck := now } with a := upd s.a k true } k) 32 := cnt_pos hk (by simp [relM, upd_same])
  unfold mustP
  rw [decide_eq_true hc]
  simp [relM, h.ar]
theorem must_pulse {s : WS} {n k now : Nat} (h : Q0 s n) (hk : k < n) : mustP (advM now { advM now s with a := upd (advM now s).a k true, h := upd (advM now s).h k true, t := upd (advM now s).t k now }) = true := by
  rw [quiet_adv h.na h.al]
  have h1 := adv_fire (now := now) (k := k) (s := { { s with ck := now } with a := upd s.a k true, h := upd s.h k true, t := upd s.t k now }) (by simp only; rw [h.n]; exact hk) upd_same upd_same (by simp only; rw [upd_same]; exact Nat.le_refl _)
  obtain ⟨a1, a2, -⟩ := advM_keep (now := now) (s := { { s with ck := now } with a := upd s.a k true, h := upd s.h k true, t := upd s.t k now })
  refine must_ev (a1.trans h.ar) ?_
  rw [a2]
  exact Nat.lt_of_le_of_lt (show s.rm ≤ s.ev by rw [h.rm]; exact Nat.zero_le _) h1
theorem must_alarm {s : WS} {n now : Nat} (h : Q0 s n) : mustP (advM now { advM now s with al := true, at_ := now }) = true := by
  rw [quiet_adv h.na h.al]
  have h1 := adv_alarm (now := now) (s := { { s with ck := now } with al := true, at_ := now }) rfl (Nat.le_refl _)
  obtain ⟨a1, a2, -⟩ := advM_keep (now := now) (s := { { s with ck := now } with al := true, at_ := now })
  refine must_ev (a1.trans h.ar) ?_
  rw [a2]
  exact Nat.lt_of_le_of_lt (show s.rm ≤ s.ev by rw [h.rm]; exact Nat.zero_le _) h1
end Go.Proofs.Ytgbkgiglagfciaa
