/- A map keyed by links, whose elements are all true: what a look-up and a store do. -/
import Derived.Test.YtinengemeppefaaBase
import Derived.Test.YtinengemeppefaaProg
import Derived.Laws.StructEq
import Derived.Maps.Own
namespace Go.Proofs.Ytinengemeppefaa
open Go.RowKit Go.ChangeMaps

/-- A link as a struct's value. -/
abbrev lv (p : Int × Int) : Value := .agg #[.int .i64 p.1, .int .i64 p.2]

theorem link_check (em : Bool) (p : Int × Int) (w : World) : (Instr.checkKey em 10000 43 (lv p)).run Try.prog w = .ok () w := by kernel_rfl
theorem link_equal (p q : Int × Int) (w : World) : (Op.equal 43 (lv p) (lv q)).run Try.prog w = .ok (decide (p = q)) w := by
  have h : (p.1 == q.1 && p.2 == q.2) = decide (p = q) := by
    rw [Bool.eq_iff_iff]
    simp [Prod.ext_iff]
  rw [← h]
  unfold Op.equal
  show (Op.equalIn 10000 _ _ _).run _ _ = _
  simp [go_sem]
  by_cases h1 : p.1 = q.1 <;> by_cases h2 : p.2 = q.2 <;> simp [h1, h2]

/-- Block b is a map whose keys are the links of l, in this order, each with the element true. -/
def MapAt (w : World) (b : Nat) (l : List (Int × Int)) : Prop :=
  ∃ es clock, w.heap[b]? = some (.map es clock) ∧ es.toList.map (fun e => (e.key, e.val)) = l.map fun p => (lv p, Value.bool true)

theorem MapAt.lt {w : World} {b : Nat} {l : List (Int × Int)} (h : MapAt w b l) : b < w.heap.size := by
  obtain ⟨es, clock, hb, _⟩ := h
  exact lt_of_block hb
theorem MapAt.fr {w w' : World} {b : Nat} {l : List (Int × Int)} {S : List Nat} (h : MapAt w b l) (k : Fr S w w') (hs : b ∉ S) : MapAt w' b l := by
  have hl := h.lt
  obtain ⟨es, clock, hb, he⟩ := h
  exact ⟨es, clock, (k.block b hl hs).trans hb, he⟩
theorem MapAt.new (w : World) : MapAt (w.alloc (.map #[] 0)) w.heap.size [] := ⟨#[], 0, heap_alloc_new w _, rfl⟩

theorem getobj_map {P : Program} {w : World} {r : Nat} {es : Array MapEntry} {clock : Nat} (hb : w.heap[r]? = some (.map es clock)) : (getObj r).run P w = .ok (.map es clock) w := by simp [getObj, Sem.run, hb]
theorem setobj_map {P : Program} {w : World} {r : Nat} {es : Array MapEntry} {clock : Nat} (o : Obj) (hb : w.heap[r]? = some (.map es clock)) : (setObj r o).run P w = .ok () (setBlock w r o) := by simp [setObj, Sem.run, hb, setBlock]
theorem find_asking (w : World) (p : Int × Int) : ∀ (es : List MapEntry) (l : List (Int × Int)) (i : Nat), es.map (fun e => (e.key, e.val)) = l.map (fun p => (lv p, Value.bool true)) →
    ∃ r, (Instr.findAsking 43 (lv p) es i).run Try.prog w = .ok r w ∧ (p ∈ l → ∃ j, r = some (j, .bool true)) ∧ (p ∉ l → r = none)
  | [], l, i, h => by
    have : l = [] := by cases l; rfl; cases h
    subst this
    exact ⟨none, rfl, by simp, fun _ => rfl⟩
  | e :: es, [], i, h => by cases h
  | e :: es, q :: l, i, h => by
    simp only [List.map_cons, List.cons.injEq, Prod.mk.injEq] at h
    obtain ⟨⟨hk, hv⟩, ht⟩ := h
    obtain ⟨r, hr, h1, h2⟩ := find_asking w p es l (i + 1) ht
    unfold Instr.findAsking
    rw [hk]
    have he := link_equal p q w
    by_cases hpq : p = q
    · refine ⟨some (i, .bool true), ?_, fun _ => ⟨i, rfl⟩, fun h => absurd (List.mem_cons.2 (.inl hpq)) h⟩
      rw [decide_eq_true hpq] at he
      simp [go_sem, he, hv]
    · refine ⟨r, ?_, fun h => h1 ?_, fun h => h2 (fun h' => h (List.mem_cons.2 (.inr h')))⟩
      · rw [decide_eq_false hpq] at he
        simp [go_sem, he, hr]
      · rcases List.mem_cons.1 h with h' | h'
        · exact absurd h' hpq
        · exact h'
theorem link_struct : ∃ kd, Try.prog.underlying 43 = some (.struct kd) := by
  have h : (match Try.prog.underlying 43 with | some (.struct _) => true | _ => false) = true := by kernel_rfl
  split at h
  · exact ⟨_, by assumption⟩
  · cases h
theorem find_key (w : World) (p : Int × Int) (es : List MapEntry) (l : List (Int × Int)) (h : es.map (fun e => (e.key, e.val)) = l.map (fun p => (lv p, Value.bool true))) :
    ∃ r, (Instr.findKey 43 (lv p) es).run Try.prog w = .ok r w ∧ (p ∈ l → ∃ j, r = some (j, .bool true)) ∧ (p ∉ l → r = none) := by
  unfold Instr.findKey
  cases es with
  | nil =>
    have : l = [] := by cases l; rfl; cases h
    subst this
    exact ⟨none, by kernel_rfl, by simp, fun _ => rfl⟩
  | cons e es =>
    obtain ⟨r, hr, h1, h2⟩ := find_asking w p (e :: es) l 0 h
    refine ⟨r, ?_, h1, h2⟩
    have hn : ∀ kd, Instr.findNow (.struct kd) (lv p) (e :: es) 0 = none := fun kd => by simp [Instr.findNow, Instr.sameNow]
    obtain ⟨kd, hu⟩ : ∃ kd, Try.prog.underlying 43 = some (.struct kd) := link_struct
    simp [run_underlying hu, hn, hr]

theorem run_make_links (n : Int) (w : World) : (Instr.makeMap 75 (some (.int .i64 n))).run Try.prog w = .ok (.map (some w.heap.size)) (w.alloc (.map #[] 0)) := by kernel_rfl
theorem bool_zero (w : World) : (zeroValue 4).run Try.prog w = .ok (.bool false) w := by kernel_rfl
theorem MapAt.lookup {w : World} {b : Nat} {l : List (Int × Int)} (h : MapAt w b l) (p : Int × Int) :
    (Instr.lookup 75 (.map (some b)) (lv p) false).run Try.prog w = .ok (.bool (decide (p ∈ l))) w := by
  obtain ⟨es, clock, hb, he⟩ := h
  obtain ⟨r, hr, h1, h2⟩ := find_key w p es.toList l he
  have hu : Try.prog.underlying 75 = some (.map 43 4) := by kernel_rfl
  unfold Instr.lookup
  by_cases hp : p ∈ l
  · obtain ⟨j, rfl⟩ := h1 hp
    simp [run_underlying hu, getobj_map hb, link_check, hr, hp]
  · have := h2 hp
    subst this
    simp [run_underlying hu, getobj_map hb, link_check, hr, hp]
theorem MapAt.update {w : World} {b : Nat} {l : List (Int × Int)} (h : MapAt w b l) (p : Int × Int) (hp : p ∉ l) :
    ∃ w', (Instr.mapUpdate 75 (.map (some b)) (lv p) (.bool true)).run Try.prog w = .ok () w' ∧ MapAt w' b (l ++ [p]) ∧ Fr [b] w w' := by
  obtain ⟨es, clock, hb, he⟩ := h
  obtain ⟨r, hr, h1, h2⟩ := find_key w p es.toList l he
  have hu : Try.prog.underlying 75 = some (.map 43 4) := by kernel_rfl
  have := h2 hp
  subst this
  refine ⟨setBlock w b (.map (es.push ⟨lv p, .bool true, clock⟩) (clock + 1)), ?_, ⟨_, _, heap_setBlock_same hb _, by simp [he]⟩, ⟨rfl, rfl, rfl, by simp [setBlock], fun i _ hi => heap_setBlock_other hb _ (fun e => hi (by simp [e]))⟩⟩
  unfold Instr.mapUpdate
  simp [run_underlying hu, getobj_map hb, link_check, hr, setobj_map _ hb]
end Go.Proofs.Ytinengemeppefaa
