/- Plain words for memory: a frame with a list of blocks that may have turned, blocks known whole, rows that are read. No program is in sight here. -/
import Derived.WalkKit
import Derived.WalkSpells
import Derived.WalkLawsBesides
import Derived.Deep.Draws
import Derived.Laws.OwnMore
import Derived.OneCell
namespace Go.Proofs.Ytdocdgghphhdpaa
open Go.RowKit

theorem hide {p : Prop} (h : p) : Hid p := h

/-- Of the blocks that lay in w, only those of the list S may have turned in w'. -/
structure Fr (S : List Nat) (w w' : World) : Prop where
  os : w'.os = w.os
  tape : w'.tape = w.tape
  output : w'.output = w.output
  size : w.heap.size ≤ w'.heap.size
  block : ∀ k, k < w.heap.size → k ∉ S → w'.heap[k]? = w.heap[k]?

section
variable {S S' : List Nat} {a w w' : World}
theorem Fr.refl (S : List Nat) (w : World) : Fr S w w := ⟨rfl, rfl, rfl, Nat.le_refl _, fun _ _ _ => rfl⟩
theorem Fr.trans (h : Fr S a w) (k : Fr S w w') : Fr S a w' :=
  ⟨k.os.trans h.os, k.tape.trans h.tape, k.output.trans h.output, Nat.le_trans h.size k.size, fun i hi hs => (k.block i (Nat.lt_of_lt_of_le hi h.size) hs).trans (h.block i hi hs)⟩
theorem Fr.mono (h : Fr S w w') (hs : ∀ k, k < w.heap.size → k ∈ S → k ∈ S') : Fr S' w w' := ⟨h.os, h.tape, h.output, h.size, fun k hk hn => h.block k hk (fun e => hn (hs k hk e))⟩
theorem Fr.drew (h : Fr S a w) : Fr S a w.drew := ⟨h.os, h.tape, h.output, h.size, h.block⟩
theorem Fr.drewN (h : Fr S a w) (n : Nat) : Fr S a (w.drewN n) := ⟨h.os, h.tape, h.output, h.size, h.block⟩
theorem Fr.alloc (h : Fr S a w) (o : Obj) : Fr S a (w.alloc o) :=
  ⟨h.os, h.tape, h.output, Nat.le_trans h.size (by simp), fun i hi hs => (Below.heap_alloc w o i (Nat.lt_of_lt_of_le hi h.size)).trans (h.block i hi hs)⟩
theorem Fr.set (h : Fr S a w) {p : Addr} (hp : p.block ∈ S ∨ a.heap.size ≤ p.block) (u : Value) : Fr S a (w.setCell p u) :=
  ⟨h.os, h.tape, h.output, by simpa [World.setCell] using h.size, fun i hi hs => (Below.heap_setCell w p u i (by
    rintro rfl
    rcases hp with hp | hp
    · exact hs hp
    · omega)).trans (h.block i hi hs)⟩
theorem Fr.grown (h : Fr S a w) {row : Option Nat} (hg : w.grownBy w' row) (hr : ∀ k, row = some k → k ∈ S ∨ a.heap.size ≤ k) : Fr S a w' :=
  ⟨hg.os.trans h.os, hg.tape.trans h.tape, hg.output.trans h.output, Nat.le_trans h.size hg.size, fun i hi hs => (hg.block i (Nat.lt_of_lt_of_le hi h.size) (fun e => by
    rcases hr i e.symm with h1 | h1
    · exact hs h1
    · omega)).trans (h.block i hi hs)⟩
/-- A step that turned only blocks of S or blocks that are new since a. -/
theorem Fr.step (h : Fr S a w) (k : Fr S' w w') (hs : ∀ i, i ∈ S' → i ∈ S ∨ a.heap.size ≤ i) : Fr S a w' :=
  ⟨k.os.trans h.os, k.tape.trans h.tape, k.output.trans h.output, Nat.le_trans h.size k.size, fun i hi hn => (k.block i (Nat.lt_of_lt_of_le hi h.size) (fun e => by
    rcases hs i e with h1 | h1
    · exact hn h1
    · omega)).trans (h.block i hi hn)⟩
theorem Fr.call (h : Fr S a w) (k : Fr [] w w') : Fr S a w' := h.step k (fun _ e => by cases e)
theorem Fr.cell (h : Fr S w w') {p : Addr} {v : Value} (hc : w.cell? p = some v) (hp : p.block ∉ S) : w'.cell? p = some v :=
  (World.cell?_of_block (h.block p.block (World.block_lt_of_cell? w p hc) hp)).trans hc
theorem Fr.below (h : Fr [] w w') : Below w.heap.size w w' := ⟨h.os, h.tape, h.output, h.size, fun k hk => h.block k hk (by simp)⟩
theorem Fr.of_below (h : Below w.heap.size w w') : Fr [] w w' := ⟨h.os, h.tape, h.output, h.size, fun k hk _ => h.block k hk⟩
theorem Fr.of_grown {row : Option Nat} (h : w.grownBy w' row) : Fr row.toList w w' := ⟨h.os, h.tape, h.output, h.size, fun k hk hn => h.block k hk (fun e => hn (by subst e; simp))⟩
theorem Fr.of_none (h : w.grownBy w' none) : Fr [] w w' := Fr.of_grown h
end

/-- Block g is just these cells, none frozen. -/
def Blk (w : World) (g : Nat) (t : TypeId) (cs : Array Value) : Prop := w.heap[g]? = some (.cells cs t (0, 0))

section
variable {w w' : World} {g : Nat} {t : TypeId} {cs : Array Value} {S : List Nat}
theorem Blk.lt (h : Blk w g t cs) : g < w.heap.size := lt_of_block h
theorem Blk.cell (h : Blk w g t cs) (i : Nat) : w.cell? ⟨g, i, none⟩ = cs[i]? := cell_of_row w g i cs t (0, 0) h
theorem Blk.frozen (h : Blk w g t cs) (i : Nat) : w.frozen? ⟨g, i, none⟩ = false := by
  unfold Blk at h
  simp [World.frozen?, h]
theorem Blk.new (w : World) (t : TypeId) (cs : Array Value) : Blk (w.alloc (.cells cs t)) w.heap.size t cs := heap_alloc_new w _
theorem Blk.drew (h : Blk w g t cs) : Blk w.drew g t cs := h
theorem Blk.drewN (h : Blk w g t cs) (n : Nat) : Blk (w.drewN n) g t cs := h
theorem Blk.alloc (h : Blk w g t cs) (o : Obj) : Blk (w.alloc o) g t cs := (Below.heap_alloc w o g h.lt).trans h
theorem Blk.set_ (h : Blk w g t cs) (i : Nat) (u : Value) : Blk (w.setCell ⟨g, i, none⟩ u) g t (cs.setIfInBounds i u) := by
  unfold Blk at h ⊢
  simp [World.setCell, Array.getElem?_modify, h]
theorem Blk.far (h : Blk w g t cs) {p : Addr} (hp : g ≠ p.block) (u : Value) : Blk (w.setCell p u) g t cs := (Below.heap_setCell w p u g hp).trans h
theorem Blk.fr (h : Blk w g t cs) (k : Fr S w w') (hg : g ∉ S) : Blk w' g t cs := (k.block g h.lt hg).trans h
theorem Blk.ne_ {g' : Nat} {t' : TypeId} {cs' : Array Value} (h : Blk w g t cs) (h' : Blk w g' t' cs') (hne : t ≠ t') : g ≠ g' := by
  rintro rfl
  unfold Blk at h h'
  rw [h] at h'
  injection h' with h'
  injection h' with _ ht
  exact hne ht
theorem Blk.of_own {base : Nat} {e : TypeId} {size n c : Nat} {o : Nat} {xs : List Value} (h : w.ownsRow base e size (.slice (some ⟨g, o, none⟩) n c) n xs) : ∃ cs, Blk w g e cs := by
  rcases h.2 with ⟨h0, _⟩ | ⟨g', cap, cur, hv, _, hh, _⟩
  · cases h0
  · injection hv with hv
    injection hv with hv
    injection hv with hv
    subst hv
    exact ⟨cur, hh⟩
end

/-- The cells of a row that is only read: nil is let in where there is no cell. -/
def Row (w : World) (A : Option Addr) (xs : List Value) : Prop :=
  0 < xs.length → ∃ ob oo, A = some ⟨ob, oo, none⟩ ∧ ∀ i u, xs[i]? = some u → w.cell? ⟨ob, oo + i, none⟩ = some u
/-- The row lies in none of these blocks. -/
def Off (A : Option Addr) (S : List Nat) : Prop := ∀ ad, A = some ad → ad.block ∉ S

section
variable {w w' : World} {A : Option Addr} {xs : List Value} {S : List Nat}
theorem Row.nil (w : World) (A : Option Addr) : Row w A [] := fun h => absurd h (by simp)
theorem Row.at_ (h : Row w A xs) {i : Nat} {u : Value} (hi : xs[i]? = some u) : ∃ ob oo, A = some ⟨ob, oo, none⟩ ∧ w.cell? ⟨ob, oo + i, none⟩ = some u := by
  have hl : i < xs.length := (List.getElem?_eq_some_iff.1 hi).1
  obtain ⟨ob, oo, e, hc⟩ := h (by omega)
  exact ⟨ob, oo, e, hc i u hi⟩
theorem Row.fr (h : Row w A xs) (k : Fr S w w') (ho : Off A S) : Row w' A xs := fun hl => by
  obtain ⟨ob, oo, e, hc⟩ := h hl
  exact ⟨ob, oo, e, fun i u hi => k.cell (hc i u hi) (show ob ∉ S from ho ⟨ob, oo, none⟩ e)⟩
theorem Row.fr0 (h : Row w A xs) (k : Fr [] w w') : Row w' A xs := h.fr k (fun _ _ => by simp)
theorem Row.lt (h : Row w A xs) (hl : 0 < xs.length) : ∃ ob oo, A = some ⟨ob, oo, none⟩ ∧ ob < w.heap.size := by
  obtain ⟨ob, oo, e, hc⟩ := h hl
  have := hc 0 xs[0] (List.getElem?_eq_getElem (by omega))
  exact ⟨ob, oo, e, World.block_lt_of_cell? w _ this⟩
theorem Row.of_own {base : Nat} {e : TypeId} {size n c : Nat} (h : w.ownsRow base e size (.slice A n c) n xs) : Row w A xs := fun hl => by
  rcases h.2 with ⟨h0, h1⟩ | ⟨g, cap, cur, hv, _, hh, hnc, _, hcur, hx⟩
  · have := h.1
    rw [h1] at this
    simp at this
    rw [this] at hl
    simp at hl
  · have hA : A = some ⟨g, 0, none⟩ := by injection hv
    refine ⟨g, 0, hA, fun i u hi => ?_⟩
    have hc := Blk.cell (w := w) (g := g) (t := e) (cs := cur) hh (0 + i)
    rw [hc, Nat.zero_add]
    rw [← hx, List.getElem?_take] at hi
    split at hi
    · simpa using hi
    · cases hi
end

theorem own_nil (w : World) (base : Nat) (e : TypeId) (size : Nat) : w.ownsRow base e size (.slice none 0 0) 0 [] := ⟨by simp, .inl ⟨rfl, rfl⟩⟩
theorem own_new (w : World) {base e size n c : Nat} {cs : Array Value} (hb : base ≤ w.heap.size) (hs : cs.size = c * size) (hn : n ≤ c) (hc : c ≤ maxLen) : (w.alloc (.cells cs e)).ownsRow base e size (.slice (some ⟨w.heap.size, 0, none⟩) n c) n (cs.toList.take (n * size)) :=
  ⟨by simp [hs]; rw [Nat.min_eq_left hn], .inr ⟨w.heap.size, c, cs, rfl, hb, heap_alloc_new w _, hn, hc, hs, rfl⟩⟩
theorem own_fr {w w' : World} {base : Nat} {e : TypeId} {size : Nat} {v : Value} {n : Nat} {xs : List Value} {S : List Nat} (h : w.ownsRow base e size v n xs) (k : Fr S w w') (hs : ∀ g, v.ownBlock = some g → g ∉ S) : w'.ownsRow base e size v n xs := by
  refine ⟨h.1, ?_⟩
  rcases h.2 with h0 | ⟨g, cap, cur, hv, hg, hh, r⟩
  · exact .inl h0
  · exact .inr ⟨g, cap, cur, hv, hg, (k.block g (lt_of_block hh) (hs g (by rw [hv]; rfl))).trans hh, r⟩
theorem own_base {w : World} {base base' : Nat} {e : TypeId} {size : Nat} {v : Value} {n : Nat} {xs : List Value} (h : w.ownsRow base e size v n xs) (hb : base' ≤ base) : w.ownsRow base' e size v n xs := by
  refine ⟨h.1, ?_⟩
  rcases h.2 with h0 | ⟨g, cap, cur, hv, hg, r⟩
  · exact .inl h0
  · exact .inr ⟨g, cap, cur, hv, by omega, r⟩
theorem own_block {w : World} {base : Nat} {e : TypeId} {size : Nat} {v : Value} {n : Nat} {xs : List Value} (h : w.ownsRow base e size v n xs) {g : Nat} (hg : v.ownBlock = some g) : base ≤ g ∧ g < w.heap.size ∧ ∃ cs, Blk w g e cs := by
  rcases h.2 with ⟨h0, _⟩ | ⟨g', cap, cur, hv, hb, hh, r⟩
  · subst h0; cases hg
  · subst hv
    have : g' = g := by simpa [Value.ownBlock] using hg
    subst this
    exact ⟨hb, lt_of_block hh, cur, hh⟩

/-- A slice of ints that reads as l. -/
def Ints (w : World) (v : Value) (l : List Int) : Prop := ∃ A cp, v = .slice A l.length cp ∧ Row w A (l.map (Value.int .i64))
theorem Ints.fr {w w' : World} {v : Value} {l : List Int} (h : Ints w v l) (k : Fr [] w w') : Ints w' v l := by
  obtain ⟨A, cp, e, hr⟩ := h
  exact ⟨A, cp, e, hr.fr0 k⟩
theorem Ints.of_own {w : World} {base : Nat} {e : TypeId} {v : Value} {n : Nat} {l : List Int} (h : w.ownsRow base e 1 v n (l.map (Value.int .i64))) : Ints w v l := by
  have hl : l.length = n := by simpa using h.1
  subst hl
  rcases h.2 with ⟨h0, h1⟩ | ⟨g, cap, cur, hv, _⟩
  · subst h0
    exact ⟨none, 0, by rw [h1], fun hl => by simp at hl; omega⟩
  · subst hv
    exact ⟨_, cap, rfl, Row.of_own h⟩

theorem Fr.call' {a w w' : World} {b : Nat} (h : Fr [] a w) (k : Fr [b] w w') (hb : a.heap.size ≤ b) : Fr [] a w' := h.step k (fun i hi => .inr (by rw [List.mem_singleton.1 hi]; exact hb))
theorem Fr.frozen {S : List Nat} {w w' : World} (h : Fr S w w') {p : Addr} (hl : p.block < w.heap.size) (hp : p.block ∉ S) : w'.frozen? p = w.frozen? p := by
  unfold World.frozen?
  rw [h.block _ hl hp]
theorem frozen_grown {wx W w2 : World} {o : Option Nat} (hf : Fr [] wx W) (hg : W.grownBy w2 o) {p : Addr} (hc : wx.frozen? p = false) (hl : p.block < wx.heap.size) (hn : ∀ y, o = some y → y ≠ p.block) : w2.frozen? p = false := by
  rw [Fr.frozen (Fr.of_grown hg) (Nat.lt_of_lt_of_le hl hf.size) (fun hm => by
    cases o with
    | none => cases hm
    | some y => exact hn y rfl (List.mem_singleton.1 hm).symm), Fr.frozen hf hl (by simp)]
  exact hc
theorem cell_grown {wx W w2 : World} {o : Option Nat} (hf : Fr [] wx W) (hg : W.grownBy w2 o) {p : Addr} {u : Value} (hc : wx.cell? p = some u) (hn : ∀ y, o = some y → y ≠ p.block) : w2.cell? p = some u :=
  Fr.cell (Fr.of_grown hg) (Fr.cell hf hc (by simp)) (fun hm => by
    cases o with
    | none => cases hm
    | some y => exact hn y rfl (List.mem_singleton.1 hm).symm)
theorem row_one (w : World) (t : TypeId) (u : Value) : Row (w.alloc (.cells #[u] t)) (some ⟨w.heap.size, 0, none⟩) [u] := fun _ => ⟨_, 0, rfl, fun i v hv => by
  cases i with
  | zero =>
    injection hv with hv
    subst hv
    exact (Blk.new w t #[u]).cell 0
  | succ i => cases hv⟩
theorem row_lit (w : World) (cs : Array Value) (t : TypeId) {g : Nat} (hg : g = w.heap.size) : Row (w.alloc (.cells cs t)) (some ⟨g, 0, none⟩) cs.toList := fun _ => by
  subst hg
  exact ⟨_, 0, rfl, fun i u hi => ((Blk.new w t cs).cell (0 + i)).trans (by simpa using hi)⟩
def OwnRet (w : World) (e : TypeId) (size n : Nat) (xs : List Value) (r : Ending) (w' : World) : Prop := ∃ v, r = .returned v ∧ w'.ownsRow w.heap.size e size v n xs ∧ Fr [] w w'
/-- What an owned row is as a slice. -/
theorem own_slice {w : World} {base : Nat} {e : TypeId} {size : Nat} {v : Value} {n : Nat} {xs : List Value} (h : w.ownsRow base e size v n xs) :
    ∃ A cp, v = .slice A n cp ∧ (A = none → cp = 0) ∧ Row w A xs ∧ ∀ ad, A = some ad → base ≤ ad.block ∧ ad.block < w.heap.size := by
  rcases h.2 with ⟨h0, h1⟩ | ⟨g, cap, cur, hv, hb, hh, _⟩
  · subst h0
    subst h1
    exact ⟨none, 0, rfl, fun _ => rfl, Row.of_own h, (fun ad e => by cases e)⟩
  · subst hv
    exact ⟨_, cap, rfl, (fun e => by cases e), Row.of_own h, (fun ad e => by cases e; exact ⟨hb, lt_of_block hh⟩)⟩

/-- A natural number as an int's value. -/
abbrev nv (n : Nat) : Value := .int .i64 (n : Int)

theorem ret_int {k : IntKind} {a b : Int} (h : a = b) : Ending.returned (.int k a) = .returned (.int k b) := by rw [h]
theorem ret_bool {a b : Bool} (h : a = b) : Ending.returned (.bool a) = .returned (.bool b) := by rw [h]

theorem results_none {fn : Func} (h : fn.results = #[]) (tmps : Array Value) (P : Program) (w : World) : (results fn tmps).run P w = .ok (.tuple #[]) w := by simp [results, h]

theorem quiet_add {P : Program} {f : FuncId} {args : Array Value} {w : World} {a n : Nat} {v : Value}
    (h : Calls P f args (w.drewN (a + n)) fun e w' => e = .returned v ∧ ∃ m, w' = (w.drewN (a + n)).drewN m) :
    Calls P f args (w.drewN (a + n)) fun e w'' => e = .returned v ∧ ∃ m, w'' = w.drewN (a + m) :=
  h.mono fun _ _ ⟨he, m, hm⟩ => ⟨he, n + m, by rw [hm, World.drewN_drewN, Nat.add_assoc]⟩

end Go.Proofs.Ytdocdgghphhdpaa
