/- make of a slice whose elements take one cell each. -/
import Derived.Test.YtdocdgghphhdpaaBase
import Derived.Test.YtdocdgghphhdpaaProg
import Derived.Laws.MakeOwn
import Derived.OwnWalk
import Derived.Test.YtdocdgghphhdpaaMgDeviceTree4
import Derived.Lib.Hide
import Derived.Laws.StructEq
import Derived.Maps.Own
namespace Go.Proofs.Ytdocdgghphhdpaa
open Go.RowKit

theorem made_repl {z : Value} (hz : z.cells = #[z]) (n : Nat) : madeCells z.cells (n * 1) = Array.replicate n z := by
  rw [hz, Nat.mul_one]
  apply Array.ext
  · simp [size_madeCells]
  · intro i h1 h2
    simp [madeCells, Nat.mod_one]
theorem run_make_one {P : Program} (t e : TypeId) (z : Value) (b : Nat) (ht : P.underlying t = some (.slice e)) (hi : (P.info? e).map (fun i => (i.zero, i.size, i.bytes)) = some (some z, 1, b)) (hzc : z.cells = #[z])
    (n c : Nat) (hnc : n ≤ c) (hb : b ≤ 64) (hc : c ≤ 1000000) (w : World) :
    (Instr.makeSlice t (.int .i64 (n : Int)) (.int .i64 (c : Int))).run P w = .ok (.slice (some ⟨w.heap.size, 0, none⟩) n c) (w.alloc (.cells (Array.replicate c z) e)) := by
  obtain ⟨i, hi, hz, hs, hby⟩ := info_parts hi
  have hbb : i.bytes * c ≤ 64 * 1000000 := by rw [hby]; exact Nat.mul_le_mul hb hc
  have hb' : (i.bytes : Int) * (c : Int) ≤ 281474976710656 := by
    have h : ((i.bytes * c : Nat) : Int) ≤ 281474976710656 := by omega
    rwa [Int.natCast_mul] at h
  have hr := run_make (P := P) w t e i z ht hi hz .i64 .i64 n c (by omega) (by omega) hb' (by omega)
  rw [hr, hs]
  simp only [Int.toNat_natCast]
  rw [← made_repl hzc]
theorem int_info1 : (Try.prog.info? 3).map (fun i => (i.zero, i.size, i.bytes)) = some (some (.int .i64 0), 1, 8) := by kernel_rfl
theorem bool_info1 : (Try.prog.info? 4).map (fun i => (i.zero, i.size, i.bytes)) = some (some (.bool false), 1, 1) := by kernel_rfl
theorem make_ints (n c : Nat) (hnc : n ≤ c) (hc : c ≤ 1000000) (w : World) : (Instr.makeSlice 34 (.int .i64 (n : Int)) (.int .i64 (c : Int))).run Try.prog w = .ok (.slice (some ⟨w.heap.size, 0, none⟩) n c) (w.alloc (.cells (Array.replicate c (.int .i64 0)) 3)) :=
  run_make_one _ _ _ 8 Try.underlying34 int_info1 rfl n c hnc (by omega) hc w
theorem make_ints0 (c : Nat) (hc : c ≤ 1000000) (w : World) : (Instr.makeSlice 34 (.int .i64 0) (.int .i64 (c : Int))).run Try.prog w = .ok (.slice (some ⟨w.heap.size, 0, none⟩) 0 c) (w.alloc (.cells (Array.replicate c (.int .i64 0)) 3)) := make_ints 0 c (Nat.zero_le _) hc w
theorem make_bools (n c : Nat) (hnc : n ≤ c) (hc : c ≤ 1000000) (w : World) : (Instr.makeSlice 166 (.int .i64 (n : Int)) (.int .i64 (c : Int))).run Try.prog w = .ok (.slice (some ⟨w.heap.size, 0, none⟩) n c) (w.alloc (.cells (Array.replicate c (.bool false)) 4)) :=
  run_make_one _ _ _ 1 Try.underlying166 bool_info1 rfl n c hnc (by omega) hc w
end Go.Proofs.Ytdocdgghphhdpaa

/- slices.Clone at rails, walked. -/
namespace Go.Proofs.Ytdocdgghphhdpaa
open Go.RowKit
theorem rail_info : (Try.prog.info? 49).map (fun i => (i.zero, i.size, i.bytes)) = some (some (.agg #[.int .i64 0, .int .u64 0, .int .u64 0]), 3, 24) := by kernel_rfl
theorem rlcs_len (R : Nat → RailD) (n : Nat) : (rlcs R n).length = n * 3 := by
  unfold rlcs
  rw [flat_length (f := fun i => rlc (R i)) (fun i => rlc_len (R i)), List.length_range]
theorem rlcs_one (R : Nat → RailD) (n : Nat) : ∀ u ∈ rlcs R n, u.oneCell' = true := by
  intro u hu
  obtain ⟨i, _, hi⟩ := List.mem_flatMap.1 hu
  simp only [rlc, List.mem_cons, List.not_mem_nil, or_false] at hi
  rcases hi with rfl | rfl | rfl <;> rfl
set_option maxHeartbeats 400000 in
theorem clone_rails (A : Option Addr) (cp n : Nat) (R : Nat → RailD) (w : World) (hr : Row w A (rlcs R n)) (hn : n ≤ 4096) (hA : A = none → cp = 0 ∧ n = 0) :
    Calls Try.prog 103 #[.slice A n cp] w (OwnRet w 49 3 n (rlcs R n)) := by
  obtain ⟨i0, hi0, hz0, hz1, hz2⟩ := info_parts rail_info
  have hq : ∀ (w : World) (a : Option Addr) (n c n' c' : Nat), (binOp .eql 23 (.slice a n c) (.slice none n' c')).run Try.prog w = .ok (.bool a.isNone) w := fun w a n c n' c' => Lib.run_eql_slice_nil w _ _ a n c n' c' Try.underlying23
  rcases A with _ | ad
  · obtain ⟨rfl, rfl⟩ := hA rfl
    clear hA hr hn
    go_enter Try.func103, Try.ntmps103
    go_wp2
    go_ret
    exact ⟨_, rfl, own_nil _ _ _ _, Fr.refl _ _⟩
  · have HR := hide hr
    have H1 := hide (rlcs_one R n)
    have HL := hide (rlcs_len R n)
    clear hA hr
    generalize rlcs R n = xs at HR H1 HL ⊢
    go_enter Try.func103, Try.ntmps103
    go_wp2_with (first
      | (at_builtin
         refine wpList_append_row _ rfl (.tmp 5) (.tmp 6) _ rfl w.heap.size 49 i0 (.agg #[.int .i64 0, .int .u64 0, .int .u64 0]) 3 24 Try.underlying23 hi0 hz0 hz1 hz2 rfl (by omega) (.slice (some ⟨w.heap.size, 0, none⟩) 0 0) 0 [] rfl
           (own_new w (cs := #[]) (Nat.le_refl _) (by simp) (Nat.le_refl _) (by simp [maxLen])) (some ad) n cp xs rfl HL.out (HR.out.fr0 ((Fr.refl _ _).alloc _)) H1.out (by simp only [maxLen]; omega) (by omega) (by simp) ?_
         intro v1 w1 hown1 hg1 hat1))
    go_ret
    exact ⟨v1, rfl, by simpa using hown1, ((Fr.refl _ _).alloc _).grown hg1 (by simp [Value.ownBlock])⟩
end Go.Proofs.Ytdocdgghphhdpaa

/- A map keyed by links, whose elements are all true: what a look-up and a store do. -/
namespace Go.Proofs.Ytdocdgghphhdpaa
open Go.RowKit Go.ChangeMaps

/-- A link as a struct's value. -/
abbrev lv (p : Int × Int) : Value := .agg #[.int .i64 p.1, .int .i64 p.2]

theorem link_check (em : Bool) (p : Int × Int) (w : World) : (Instr.checkKey em 10000 76 (lv p)).run Try.prog w = .ok () w := by kernel_rfl
theorem link_equal (p q : Int × Int) (w : World) : (Op.equal 76 (lv p) (lv q)).run Try.prog w = .ok (decide (p = q)) w := by
  have h : (p.1 == q.1 && p.2 == q.2) = decide (p = q) := by
    rw [Bool.eq_iff_iff]
    simp [Prod.ext_iff]
  rw [← h]
  unfold Op.equal
  show (Op.equalIn 10000 _ _ _).run _ _ = _
  simp [go_sem]
  by_cases h1 : p.1 = q.1 <;> by_cases h2 : p.2 = q.2 <;> simp [h1, h2]

/-- Block b is a map whose keys are the links of l, in this order, each with the element true. -/
def MapAt (w : World) (b : Nat) (l : List (Int × Int)) : Prop :=
  ∃ es clock, w.heap[b]? = some (.map es clock) ∧ es.toList.map (fun e => (e.key, e.val)) = l.map fun p => (lv p, Value.bool true)

theorem MapAt.lt {w : World} {b : Nat} {l : List (Int × Int)} (h : MapAt w b l) : b < w.heap.size := by
  obtain ⟨es, clock, hb, _⟩ := h
  exact lt_of_block hb
theorem MapAt.fr {w w' : World} {b : Nat} {l : List (Int × Int)} {S : List Nat} (h : MapAt w b l) (k : Fr S w w') (hs : b ∉ S) : MapAt w' b l := by
  have hl := h.lt
  obtain ⟨es, clock, hb, he⟩ := h
  exact ⟨es, clock, (k.block b hl hs).trans hb, he⟩
theorem MapAt.new (w : World) : MapAt (w.alloc (.map #[] 0)) w.heap.size [] := ⟨#[], 0, heap_alloc_new w _, rfl⟩

theorem getobj_map {P : Program} {w : World} {r : Nat} {es : Array MapEntry} {clock : Nat} (hb : w.heap[r]? = some (.map es clock)) : (getObj r).run P w = .ok (.map es clock) w := by simp [getObj, Sem.run, hb]
theorem setobj_map {P : Program} {w : World} {r : Nat} {es : Array MapEntry} {clock : Nat} (o : Obj) (hb : w.heap[r]? = some (.map es clock)) : (setObj r o).run P w = .ok () (setBlock w r o) := by simp [setObj, Sem.run, hb, setBlock]
theorem find_asking (w : World) (p : Int × Int) : ∀ (es : List MapEntry) (l : List (Int × Int)) (i : Nat), es.map (fun e => (e.key, e.val)) = l.map (fun p => (lv p, Value.bool true)) →
    ∃ r, (Instr.findAsking 76 (lv p) es i).run Try.prog w = .ok r w ∧ (p ∈ l → ∃ j, r = some (j, .bool true)) ∧ (p ∉ l → r = none)
  | [], l, i, h => by
    have : l = [] := by cases l; rfl; cases h
    subst this
    exact ⟨none, rfl, by simp, fun _ => rfl⟩
  | e :: es, [], i, h => by cases h
  | e :: es, q :: l, i, h => by
    simp only [List.map_cons, List.cons.injEq, Prod.mk.injEq] at h
    obtain ⟨⟨hk, hv⟩, ht⟩ := h
    obtain ⟨r, hr, h1, h2⟩ := find_asking w p es l (i + 1) ht
    unfold Instr.findAsking
    rw [hk]
    have he := link_equal p q w
    by_cases hpq : p = q
    · refine ⟨some (i, .bool true), ?_, fun _ => ⟨i, rfl⟩, fun h => absurd (List.mem_cons.2 (.inl hpq)) h⟩
      rw [decide_eq_true hpq] at he
      simp [go_sem, he, hv]
    · refine ⟨r, ?_, fun h => h1 ?_, fun h => h2 (fun h' => h (List.mem_cons.2 (.inr h')))⟩
      · rw [decide_eq_false hpq] at he
        simp [go_sem, he, hr]
      · rcases List.mem_cons.1 h with h' | h'
        · exact absurd h' hpq
        · exact h'
set_option maxRecDepth 100000 in
theorem link_struct : ∃ kd, Try.prog.underlying 76 = some (.struct kd) := by
  have h : (match Try.prog.underlying 76 with | some (.struct _) => true | _ => false) = true := by kernel_rfl
  split at h
  · exact ⟨_, by assumption⟩
  · cases h
theorem find_key (w : World) (p : Int × Int) (es : List MapEntry) (l : List (Int × Int)) (h : es.map (fun e => (e.key, e.val)) = l.map (fun p => (lv p, Value.bool true))) :
    ∃ r, (Instr.findKey 76 (lv p) es).run Try.prog w = .ok r w ∧ (p ∈ l → ∃ j, r = some (j, .bool true)) ∧ (p ∉ l → r = none) := by
  unfold Instr.findKey
  cases es with
  | nil =>
    have : l = [] := by cases l; rfl; cases h
    subst this
    exact ⟨none, by kernel_rfl, by simp, fun _ => rfl⟩
  | cons e es =>
    obtain ⟨r, hr, h1, h2⟩ := find_asking w p (e :: es) l 0 h
    refine ⟨r, ?_, h1, h2⟩
    have hn : ∀ kd, Instr.findNow (.struct kd) (lv p) (e :: es) 0 = none := fun kd => by simp [Instr.findNow, Instr.sameNow]
    obtain ⟨kd, hu⟩ : ∃ kd, Try.prog.underlying 76 = some (.struct kd) := link_struct
    simp [run_underlying hu, hn, hr]

theorem run_make_links (n : Int) (w : World) : (Instr.makeMap 182 (some (.int .i64 n))).run Try.prog w = .ok (.map (some w.heap.size)) (w.alloc (.map #[] 0)) := by kernel_rfl
theorem bool_zero (w : World) : (zeroValue 4).run Try.prog w = .ok (.bool false) w := by kernel_rfl
theorem MapAt.lookup {w : World} {b : Nat} {l : List (Int × Int)} (h : MapAt w b l) (p : Int × Int) :
    (Instr.lookup 182 (.map (some b)) (lv p) false).run Try.prog w = .ok (.bool (decide (p ∈ l))) w := by
  obtain ⟨es, clock, hb, he⟩ := h
  obtain ⟨r, hr, h1, h2⟩ := find_key w p es.toList l he
  have hu : Try.prog.underlying 182 = some (.map 76 4) := by kernel_rfl
  unfold Instr.lookup
  by_cases hp : p ∈ l
  · obtain ⟨j, rfl⟩ := h1 hp
    simp [run_underlying hu, getobj_map hb, link_check, hr, hp]
  · have := h2 hp
    subst this
    simp [run_underlying hu, getobj_map hb, link_check, hr, hp]
theorem MapAt.update {w : World} {b : Nat} {l : List (Int × Int)} (h : MapAt w b l) (p : Int × Int) (hp : p ∉ l) :
    ∃ w', (Instr.mapUpdate 182 (.map (some b)) (lv p) (.bool true)).run Try.prog w = .ok () w' ∧ MapAt w' b (l ++ [p]) ∧ Fr [b] w w' := by
  obtain ⟨es, clock, hb, he⟩ := h
  obtain ⟨r, hr, h1, h2⟩ := find_key w p es.toList l he
  have hu : Try.prog.underlying 182 = some (.map 76 4) := by kernel_rfl
  have := h2 hp
  subst this
  refine ⟨setBlock w b (.map (es.push ⟨lv p, .bool true, clock⟩) (clock + 1)), ?_, ⟨_, _, heap_setBlock_same hb _, by simp [he]⟩, ⟨rfl, rfl, rfl, by simp [setBlock], fun i _ hi => heap_setBlock_other hb _ (fun e => hi (by simp [e]))⟩⟩
  unfold Instr.mapUpdate
  simp [run_underlying hu, getobj_map hb, link_check, hr, setobj_map _ hb]
end Go.Proofs.Ytdocdgghphhdpaa

