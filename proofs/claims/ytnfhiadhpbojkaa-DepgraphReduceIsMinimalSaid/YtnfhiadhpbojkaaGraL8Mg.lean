/- The law DepgraphClosureDuality, walked. -/
import Derived.Test.YtnfhiadhpbojkaaGraL7Mg
namespace Go.Proofs.Ytnfhiadhpbojkaa
open Go.RowKit

def CtRel (w : World) (l : List Int) (v : Int) (m : Nat) (i : Value) (wr : World) : Prop := ∃ k : Nat, k ≤ l.length ∧ i = .int .i64 k ∧ v ∉ l.take k ∧ w = wr ∧ m = l.length - k
set_option maxHeartbeats 1000000 in
theorem contains24_any (A : Option Addr) (cp : Nat) (l : List Int) (v : Int) (w : World) (hr : Row w A (l.map (Value.int .i64))) (hn : l.length ≤ 4096) :
    Calls Try.prog 32 #[.slice A l.length cp, .int .i64 v] w fun e w' => e = .returned (.bool (decide (v ∈ l))) ∧ w = w' := by
  have HR := hide hr
  clear hr
  go_enter Try.func32, Try.ntmps32
  go_wp2
  go_loopg [5] l.length (fun m i wr => CtRel w l v m i wr)
  case atStart => exact ⟨0, by omega, rfl, by simp, rfl, rfl⟩
  case round =>
    obtain ⟨k, hk, rfl, hnp, rfl, hmm⟩ := hrel
    have HM := hide hmm
    have HNP := hide hnp
    clear hmm hnp
    by_cases hlt : k < l.length
    · obtain ⟨y, hy⟩ : ∃ y, l[k]? = some y := ⟨_, List.getElem?_eq_getElem hlt⟩
      obtain ⟨ob, oo, rfl, c1⟩ := HR.out.int hy
      have hkl : (k : Int) < (l.length : Int) := by omega
      have HY := hide hy
      clear hy
      by_cases e : y = v
      · subst e
        have eb : (y == y) = true := by simp
        go_wp2
        go_ret
        exact ⟨ret_bool (decide_eq_true (List.mem_of_getElem? HY.out)).symm, rfl⟩
      · have eb : (y == v) = false := by simp [e]
        go_wp2
        go_roundg (l.length - (k + 1))
        case measure => rw [HM.out]; omega
        case rel =>
          refine ⟨k + 1, by omega, by go_num, ?_, rfl, rfl⟩
          rw [take_succ_some HY.out]
          intro h
          rcases List.mem_append.1 h with h | h
          · exact HNP.out h
          · exact e (List.mem_singleton.1 h).symm
    · have hkl : ¬ (k : Int) < (l.length : Int) := by omega
      go_wp2
      go_ret
      refine ⟨ret_bool (decide_eq_false ?_).symm, rfl⟩
      have := HNP.out
      rwa [List.take_of_length_le (by omega)] at this

theorem req_swp {L : List (Nat × Nat)} {a b : Nat} (h : Req L a b) : Req (swp L) b a := by
  induction h with
  | one h => exact .one (swp_mem.2 h)
  | step h _ ih => exact ih.trans (.one (swp_mem.2 h))
theorem swp_swp (L : List (Nat × Nat)) : swp (swp L) = L := by
  unfold swp
  rw [List.map_map]
  have : ((fun p : Nat × Nat => (p.2, p.1)) ∘ fun p : Nat × Nat => (p.2, p.1)) = id := by funext p; rfl
  rw [this, List.map_id]
theorem rch_dual {L : List (Nat × Nat)} {a b : Nat} : Rch L [a] b ↔ Rch (swp L) [b] a := by
  unfold Rch
  simp only [List.mem_singleton, exists_eq_left]
  constructor
  · rintro (h | h)
    · exact .inl h.symm
    · exact .inr (req_swp h)
  · rintro (h | h)
    · exact .inl h.symm
    · right
      have := req_swp h
      rwa [swp_swp] at this
/-- The closure of a closure is that closure. -/
theorem rch_idem {K : List (Nat × Nat)} {of up : List Nat} (h : ∀ v, v ∈ up ↔ Rch K of v) {v : Nat} : Rch K up v ↔ Rch K of v := by
  constructor
  · exact fun hr => hr.sub (R := fun u => Rch K of u) (fun u hu => (h u).1 hu) (fun a b ha hb => ha.step hb)
  · exact fun hr => ⟨v, (h v).2 hr, .inl rfl⟩
/-- The three closures of the law. -/
structure Dual (N : Nat) (l : List (Int × Int)) (a b : Nat) (up down : List Nat) : Prop where
  hup : closM false (N : Int) l [(a : Int)] = (up, 0)
  hdown : closM true (N : Int) l [(b : Int)] = (down, 0)
  again : closM false (N : Int) l (toI up) = (up, 0)
  len : up.length ≤ 128 ∧ down.length ≤ 128
  dual : b ∈ up ↔ a ∈ down
  self : a ∈ up
theorem dual_ok {N : Nat} {l : List (Int × Int)} (hb : basicM (N : Int) l = 0) {a b : Nat} (ha : a < N) (hbN : b < N) : ∃ up down, Dual N l a b up down := by
  obtain ⟨hok, _⟩ := basicM_zero hb
  have hlt := toNs_lt hok.2.2.2
  have hN : N ≤ 128 := by have := hok.2.1; omega
  have hup := closM_ok (cons := false) (of := [(a : Int)]) hb (by simp; omega)
  have hdn := closM_ok (cons := true) (of := [(b : Int)]) hb (by simp; omega)
  simp only [List.map_cons, List.map_nil, Int.toNat_natCast] at hup hdn
  have l1 := closM_len false (N : Int) l [(a : Int)]
  have l2 := closM_len true (N : Int) l [(b : Int)]
  rw [hup] at l1
  rw [hdn] at l2
  have hK0 : ori false (toNs l) = toNs l := rfl
  have hK1 : ori true (toNs l) = swp (toNs l) := rfl
  have hm1 : ∀ v, v ∈ (List.range N).filter (rchB N (ori false (toNs l)) [a]) ↔ Rch (toNs l) [a] v := fun v => by
    rw [List.mem_filter, List.mem_range, rchB_iff (ori_lt hlt), hK0]
    refine ⟨fun h => h.2, fun h => ⟨?_, h⟩⟩
    obtain ⟨u, hu, e | h⟩ := h
    · rw [← e, List.mem_singleton.1 hu]; exact ha
    · have : ∀ x y, Req (toNs l) x y → y < N := fun x y hxy => by
        induction hxy with
        | one h => exact (hlt _ h).2
        | step _ _ ih => exact ih
      exact this u v h
  refine ⟨_, _, hup, hdn, ?_, ⟨l1, l2⟩, ?_, ?_⟩
  · generalize hU : (List.range N).filter (rchB N (ori false (toNs l)) [a]) = U at hm1
    have hUn : ∀ u ∈ U, u < N := fun u hu => by
      rw [← hU, List.mem_filter, List.mem_range] at hu
      exact hu.1
    rw [closM_ok hb (fun x hx => by
      obtain ⟨u, hu, rfl⟩ := List.mem_map.1 hx
      have := hUn u hu
      omega)]
    have hmap : (toI U).map Int.toNat = U := by
      unfold toI
      rw [List.map_map]
      have : Int.toNat ∘ (fun n : Nat => (n : Int)) = id := by funext n; simp
      rw [this, List.map_id]
    rw [hmap]
    refine Prod.ext ?_ rfl
    refine Eq.trans (List.filter_congr (fun v hv => ?_)) hU
    have hv' := List.mem_range.1 hv
    rw [Bool.eq_iff_iff, rchB_iff (ori_lt hlt), rchB_iff (ori_lt hlt), hK0]
    exact rch_idem hm1
  · rw [hm1, List.mem_filter, List.mem_range, rchB_iff (ori_lt hlt), hK1, rch_dual]
    exact ⟨fun h => ⟨ha, h⟩, fun h => h.2⟩
  · rw [hm1]
    exact ⟨a, by simp, .inl rfl⟩
end Go.Proofs.Ytnfhiadhpbojkaa

