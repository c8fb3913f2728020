/- The plain model of a suspend sequence: what the Go methods compute, with no program in sight. -/
import Derived.Test.YtdocdgghphhdpaaBase
namespace Go.Proofs.Ytdocdgghphhdpaa
open Go.RowKit

structure Seq where
  ord : List Nat
  st : Nat
  ph : Nat
  po : Nat
  sc : Nat → Bool
  rs : Int
  /-- If it is not 0, the order's row lies in a block below it. -/
  lim : Nat := 0
  /-- The order's row lies in a block from it on. -/
  lo : Nat := 0

def rev (ph : Nat) : Bool := ph == 2 || ph == 3 || ph == 4 || ph == 8
def devAt (ord : List Nat) (ph po : Nat) : Nat := if rev ph then ord.getD (ord.length - 1 - po) 0 else ord.getD po 0
def Seq.dev (S : Seq) : Nat := devAt S.ord S.ph S.po
/-- The first position from po on whose operation has succeeded. -/
def scan (ord : List Nat) (sc : Nat → Bool) (ph : Nat) : Nat → Nat → Option Nat
  | 0, _ => none
  | k + 1, po => if sc ((9 - ph) * 64 + devAt ord ph po) then some po else scan ord sc ph k (po + 1)
def skipF (ord : List Nat) (sc : Nat → Bool) : Nat → Nat → Nat → Nat × Nat × Bool
  | 0, ph, po => (ph, po, true)
  | f + 1, ph, po =>
    match scan ord sc ph (ord.length - po) po with
    | some p => (ph, p, false)
    | none => skipF ord sc f (ph + 1) 0
def Seq.skip (S : Seq) : Seq :=
  let r := skipF S.ord S.sc (9 - S.ph) S.ph S.po
  { S with ph := r.1, po := r.2.1, st := if r.2.2 then 4 else S.st }
def Seq.undo (S : Seq) (r : Int) : Seq := ({ S with st := 3, rs := r, ph := 5, po := 0 } : Seq).skip
def setF (f : Nat → Bool) (k : Nat) : Nat → Bool := fun i => if i = k then true else f i
/-- Complete with OK while going to sleep. -/
def Seq.down (S : Seq) : Seq :=
  let last := decide (S.po + 1 = S.ord.length)
  let ph := if last then S.ph + 1 else S.ph
  { S with sc := setF S.sc (S.ph * 64 + S.dev), po := if last then 0 else S.po + 1, ph := ph, st := if 4 < ph then 2 else S.st }
def Seq.up (S : Seq) (r : Int) : Seq := ({ S with rs := if S.rs = 0 then r else S.rs, po := S.po + 1 } : Seq).skip
def Seq.complete (S : Seq) (r : Int) : Seq × Int :=
  if S.st = 1 then (if r = 0 then S.down else S.undo r, 0)
  else if S.st = 3 then (S.up r, 0) else (S, 9)
def Seq.abort (S : Seq) : Seq × Int := if S.st = 1 then (S.undo 20, 0) else (S, 9)
def Seq.wake (S : Seq) : Seq × Int := if S.st = 2 then (S.undo 0, 0) else (S, 9)
def Seq.asleep (S : Seq) : Bool := S.st == 2
def Seq.next (S : Seq) : (Nat × Nat) × Bool := if S.st = 1 ∨ S.st = 3 then ((S.ph, S.dev), true) else ((0, 0), false)
def Seq.result (S : Seq) : Int × Bool := if S.st = 4 then (S.rs, true) else (0, false)

/-- The order is made of numbers below its length, which is at most 64. -/
def OkOrd (ord : List Nat) : Prop := ord.length ≤ 64 ∧ ∀ d ∈ ord, d < ord.length
/-- The states that the methods come to. -/
structure Seq.Ok (S : Seq) : Prop where
  ord : OkOrd S.ord
  st : 1 ≤ S.st ∧ S.st ≤ 4
  down : S.st = 1 → 1 ≤ S.ph ∧ S.ph ≤ 4 ∧ S.po < S.ord.length
  up : S.st = 3 → 5 ≤ S.ph ∧ S.ph ≤ 8 ∧ S.po < S.ord.length

theorem devAt_lt {ord : List Nat} (h : OkOrd ord) {ph po : Nat} (hp : po < ord.length) : devAt ord ph po < ord.length := by
  unfold devAt
  have hg : ∀ k, k < ord.length → ord.getD k 0 < ord.length := fun k hk => by
    rw [List.getD_eq_getElem?_getD, List.getElem?_eq_getElem hk]
    exact h.2 _ (List.getElem_mem hk)
  split
  · exact hg _ (by omega)
  · exact hg _ hp

theorem scan_some {ord : List Nat} {sc : Nat → Bool} {ph : Nat} : ∀ {k po p : Nat}, scan ord sc ph k po = some p → po ≤ p ∧ p < po + k
  | 0, _, _, h => by cases h
  | k + 1, po, p, h => by
    unfold scan at h
    split at h
    · cases h; omega
    · have := scan_some h; omega

theorem skipF_ok {ord : List Nat} {sc : Nat → Bool} : ∀ (f ph po : Nat), po ≤ ord.length → f + ph = 9 →
    ((skipF ord sc f ph po).2.2 = false → ph ≤ (skipF ord sc f ph po).1 ∧ (skipF ord sc f ph po).1 ≤ 8 ∧ (skipF ord sc f ph po).2.1 < ord.length) ∧
    ((skipF ord sc f ph po).2.2 = true → (skipF ord sc f ph po).1 = 9)
  | 0, ph, po, _, hf => by simp [skipF]; omega
  | f + 1, ph, po, hp, hf => by
    unfold skipF
    split
    · rename_i p hs
      have := scan_some hs
      simp
      omega
    · have := skipF_ok (ord := ord) (sc := sc) f (ph + 1) 0 (by omega) (by omega)
      refine ⟨fun h => ?_, this.2⟩
      have := this.1 h
      omega

theorem Seq.skip_ok {S : Seq} (ho : OkOrd S.ord) (hst : S.st = 3) (h5 : 5 ≤ S.ph) (h8 : S.ph ≤ 8) (hp : S.po ≤ S.ord.length) : S.skip.Ok := by
  have h := skipF_ok (sc := S.sc) (ord := S.ord) (9 - S.ph) S.ph S.po hp (by omega)
  unfold Seq.skip
  generalize skipF S.ord S.sc (9 - S.ph) S.ph S.po = r at h
  obtain ⟨a, b, c⟩ := r
  cases c
  · have := h.1 rfl
    simp at this
    exact ⟨ho, by simp [hst], by simp [hst], by simp; omega⟩
  · exact ⟨ho, by simp, by simp, by simp⟩
theorem Seq.undo_ok {S : Seq} (ho : OkOrd S.ord) (r : Int) : (S.undo r).Ok := Seq.skip_ok ho rfl (by simp) (by simp) (by simp)
theorem Seq.down_ok {S : Seq} (h : S.Ok) (h1 : S.st = 1) : S.down.Ok := by
  have := h.down h1
  unfold Seq.down
  by_cases hl : S.po + 1 = S.ord.length
  · by_cases h4 : S.ph = 4
    · exact ⟨h.ord, by simp [hl, h4], by simp [hl, h4], by simp [hl, h4]⟩
    · have : ¬ 4 < S.ph + 1 := by omega
      exact ⟨h.ord, by simp [hl, this, h1], by simp [hl, this]; omega, by simp [hl, this, h1]⟩
  · have h4 : ¬ 4 < S.ph := by omega
    exact ⟨h.ord, by simp [hl, h4, h1], by simp [hl, h4]; omega, by simp [hl, h4, h1]⟩
theorem Seq.up_ok {S : Seq} (h : S.Ok) (h3 : S.st = 3) (r : Int) : (S.up r).Ok := by
  have := h.up h3
  exact Seq.skip_ok h.ord h3 (by simp; omega) (by simp; omega) (by simp; omega)
theorem Seq.complete_ok {S : Seq} (h : S.Ok) (r : Int) : (S.complete r).1.Ok := by
  unfold Seq.complete
  split
  · rename_i h1
    split
    · exact Seq.down_ok h h1
    · exact Seq.undo_ok h.ord r
  · split
    · rename_i h3; exact Seq.up_ok h h3 r
    · exact h
theorem Seq.abort_ok {S : Seq} (h : S.Ok) : S.abort.1.Ok := by
  unfold Seq.abort
  split
  · exact Seq.undo_ok h.ord _
  · exact h
theorem Seq.wake_ok {S : Seq} (h : S.Ok) : S.wake.1.Ok := by
  unfold Seq.wake
  split
  · exact Seq.undo_ok h.ord _
  · exact h

theorem scan_hit {ord : List Nat} {sc : Nat → Bool} {ph q : Nat} (hq : q < ord.length) (h : sc ((9 - ph) * 64 + devAt ord ph q) = true) : scan ord sc ph (ord.length - q) q = some q := by
  rw [show ord.length - q = (ord.length - (q + 1)) + 1 by omega]
  simp [scan, h]
theorem scan_miss {ord : List Nat} {sc : Nat → Bool} {ph q : Nat} (hq : q < ord.length) (h : sc ((9 - ph) * 64 + devAt ord ph q) = false) : scan ord sc ph (ord.length - q) q = scan ord sc ph (ord.length - (q + 1)) (q + 1) := by
  rw [show ord.length - q = (ord.length - (q + 1)) + 1 by omega]
  simp [scan, h]
theorem skipF_some {ord : List Nat} {sc : Nat → Bool} {ph po q : Nat} (h8 : ph ≤ 8) (h : scan ord sc ph (ord.length - po) po = some q) : skipF ord sc (9 - ph) ph po = (ph, q, false) := by
  rw [show 9 - ph = (8 - ph) + 1 by omega]
  simp [skipF, h]
theorem skipF_none {ord : List Nat} {sc : Nat → Bool} {ph po : Nat} (h8 : ph ≤ 8) (h : scan ord sc ph (ord.length - po) po = none) : skipF ord sc (9 - ph) ph po = skipF ord sc (9 - (ph + 1)) (ph + 1) 0 := by
  rw [show 9 - ph = (9 - (ph + 1)) + 1 by omega]
  simp [skipF, h]

/-- The sequence in memory: block b, and the order in a row of its own. -/
def SeqAt (w : World) (b : Nat) (S : Seq) : Prop :=
  ∃ (A : Option Addr) (cp : Nat) (cs : Array Value), Blk w b 137 cs ∧ cs[0]? = some (.slice A S.ord.length cp) ∧ cs[1]? = some (.int .i64 S.st) ∧ cs[2]? = some (.int .i64 S.ph) ∧
    cs[3]? = some (.int .i64 S.po) ∧ cs[324]? = some (.int .i64 S.rs) ∧ (∀ k, k < 320 → cs[4 + k]? = some (.bool (S.sc k))) ∧ w.ownsRow S.lo 3 1 (.slice A S.ord.length cp) S.ord.length (S.ord.map nv) ∧ (∀ ad, A = some ad → S.lim = 0 ∨ ad.block < S.lim)

section
variable {w w' : World} {b : Nat} {S : Seq}
theorem SeqAt.lt (h : SeqAt w b S) : b < w.heap.size := by
  obtain ⟨A, cp, cs, hb, _⟩ := h
  exact hb.lt
theorem SeqAt.off {A : Option Addr} {n cp lo : Nat} {xs : List Value} {cs : Array Value} (hb : Blk w b 137 cs) (ho : w.ownsRow lo 3 1 (.slice A n cp) n xs) : Off A [b] := by
  intro ad e
  subst e
  obtain ⟨_, _, cs', h'⟩ := own_block ho (g := ad.block) rfl
  have := Blk.ne_ h' hb (by decide)
  simpa using this
theorem SeqAt.cells (h : SeqAt w b S) : ∃ (A : Option Addr) (cp : Nat), w.cell? ⟨b, 0, none⟩ = some (.slice A S.ord.length cp) ∧ w.cell? ⟨b, 1, none⟩ = some (.int .i64 S.st) ∧ w.cell? ⟨b, 2, none⟩ = some (.int .i64 S.ph) ∧
    w.cell? ⟨b, 3, none⟩ = some (.int .i64 S.po) ∧ w.cell? ⟨b, 324, none⟩ = some (.int .i64 S.rs) ∧ (∀ k, k < 320 → w.cell? ⟨b, 4 + k, none⟩ = some (.bool (S.sc k))) ∧
    (∀ i, w.frozen? ⟨b, i, none⟩ = false) ∧ Row w A (S.ord.map nv) ∧ Off A [b] := by
  obtain ⟨A, cp, cs, hb, h0, h1, h2, h3, h4, hs, ho, -⟩ := h
  exact ⟨A, cp, (hb.cell 0).trans h0, (hb.cell 1).trans h1, (hb.cell 2).trans h2, (hb.cell 3).trans h3, (hb.cell 324).trans h4, fun k hk => (hb.cell _).trans (hs k hk), hb.frozen, Row.of_own ho, SeqAt.off hb ho⟩
theorem SeqAt.fr {L : List Nat} (h : SeqAt w b S) (k : Fr L w w') (hb : b ∉ L) (hL : ∀ g, g ∈ L → g < w.heap.size → ∃ t cs, Blk w g t cs ∧ t ≠ 3) : SeqAt w' b S := by
  obtain ⟨A, cp, cs, hb0, h0, h1, h2, h3, h4, hs, ho, hli⟩ := h
  refine ⟨A, cp, cs, hb0.fr k hb, h0, h1, h2, h3, h4, hs, own_fr ho k fun g hg hm => ?_, hli⟩
  obtain ⟨_, hlt, cs', h'⟩ := own_block ho hg
  obtain ⟨t, cs'', h'', hne⟩ := hL g hm hlt
  exact Blk.ne_ h'' h' hne rfl
/-- Blocks from lim on may turn. -/
theorem SeqAt.frL {L : List Nat} (h : SeqAt w b S) (k : Fr L w w') (hb : b ∉ L) (h0 : S.lim ≠ 0) (hL : ∀ g, g ∈ L → S.lim ≤ g) : SeqAt w' b S := by
  obtain ⟨A, cp, cs, hb0, h0', h1, h2, h3, h4, hs, ho, hli⟩ := h
  refine ⟨A, cp, cs, hb0.fr k hb, h0', h1, h2, h3, h4, hs, own_fr ho k fun g hg hm => ?_, hli⟩
  cases A with
  | none => cases hg
  | some ad =>
    have e : ad.block = g := by simpa [Value.ownBlock] using hg
    have h5 := hli ad rfl
    have h6 := hL g hm
    omega
theorem SeqAt.lim_ (h : SeqAt w b S) : SeqAt w b { S with lim := w.heap.size } := by
  obtain ⟨A, cp, cs, hb0, h0, h1, h2, h3, h4, hs, ho, hli⟩ := h
  refine ⟨A, cp, cs, hb0, h0, h1, h2, h3, h4, hs, ho, fun ad e => .inr ?_⟩
  subst e
  exact (own_block ho (g := ad.block) rfl).2.1
theorem SeqAt.fr0 (h : SeqAt w b S) (k : Fr [] w w') : SeqAt w' b S := h.fr k (by simp) (fun _ hg => by cases hg)
theorem SeqAt.drewN (h : SeqAt w b S) (n : Nat) : SeqAt (w.drewN n) b S := h.fr0 ((Fr.refl _ _).drewN _)
theorem SeqAt.alloc (h : SeqAt w b S) (o : Obj) : SeqAt (w.alloc o) b S := h.fr0 ((Fr.refl _ _).alloc o)
theorem SeqAt.drew (h : SeqAt w b S) : SeqAt w.drew b S := h.fr0 (Fr.refl _ _).drew
theorem SeqAt.blk (h : SeqAt w b S) : ∃ t cs, Blk w b t cs ∧ t ≠ 3 := by
  obtain ⟨A, cp, cs, hb, _⟩ := h
  exact ⟨_, cs, hb, by decide⟩
/-- A store into block b itself keeps the row of the order. -/
theorem SeqAt.set_ {S' : Seq} {i : Nat} {u : Value} (h : SeqAt w b S) (hi : 1 ≤ i) (ho : S'.ord = S.ord ∧ S'.lim = S.lim ∧ S'.lo = S.lo)
    (hc : ∀ cs : Array Value, cs[1]? = some (.int .i64 S.st) → cs[2]? = some (.int .i64 S.ph) → cs[3]? = some (.int .i64 S.po) → cs[324]? = some (.int .i64 S.rs) → (∀ k, k < 320 → cs[4 + k]? = some (.bool (S.sc k))) →
      (cs.setIfInBounds i u)[1]? = some (.int .i64 S'.st) ∧ (cs.setIfInBounds i u)[2]? = some (.int .i64 S'.ph) ∧ (cs.setIfInBounds i u)[3]? = some (.int .i64 S'.po) ∧ (cs.setIfInBounds i u)[324]? = some (.int .i64 S'.rs) ∧
      (∀ k, k < 320 → (cs.setIfInBounds i u)[4 + k]? = some (.bool (S'.sc k)))) : SeqAt (w.setCell ⟨b, i, none⟩ u) b S' := by
  obtain ⟨A, cp, cs, hb0, h0, h1, h2, h3, h4, hs, hown, hli⟩ := h
  obtain ⟨g1, g2, g3, g4, g5⟩ := hc cs h1 h2 h3 h4 hs
  obtain ⟨ho, hl, hlo⟩ := ho
  refine ⟨A, cp, _, hb0.set_ i u, ?_, g1, g2, g3, g4, g5, ?_, by rw [hl]; exact hli⟩
  · rw [ho, Array.getElem?_setIfInBounds_ne (by omega)]; exact h0
  · rw [ho, hlo]
    refine own_fr hown (S := [b]) ((Fr.refl _ _).set (.inl (by simp)) u) fun g hg hm => ?_
    obtain ⟨_, hlt, cs', h'⟩ := own_block hown hg
    have : g = b := by simpa using hm
    subst this
    exact Blk.ne_ h' hb0 (by decide) rfl
theorem lt_of_get {cs : Array Value} {i : Nat} {v : Value} (h : cs[i]? = some v) : i < cs.size := (Array.getElem?_eq_some_iff.1 h).1
theorem SeqAt.st_ (h : SeqAt w b S) (n : Nat) : SeqAt (w.setCell ⟨b, 1, none⟩ (.int .i64 n)) b { S with st := n } :=
  h.set_ (by omega) ⟨rfl, rfl, rfl⟩ fun cs h1 h2 h3 h4 hs => ⟨by simp [lt_of_get h1], by simp [h2], by simp [h3], by simp [h4], fun k hk => by rw [Array.getElem?_setIfInBounds_ne (by omega)]; exact hs k hk⟩
theorem SeqAt.ph_ (h : SeqAt w b S) (n : Nat) : SeqAt (w.setCell ⟨b, 2, none⟩ (.int .i64 n)) b { S with ph := n } :=
  h.set_ (by omega) ⟨rfl, rfl, rfl⟩ fun cs h1 h2 h3 h4 hs => ⟨by simp [h1], by simp [lt_of_get h2], by simp [h3], by simp [h4], fun k hk => by rw [Array.getElem?_setIfInBounds_ne (by omega)]; exact hs k hk⟩
theorem SeqAt.po_ (h : SeqAt w b S) (n : Nat) : SeqAt (w.setCell ⟨b, 3, none⟩ (.int .i64 n)) b { S with po := n } :=
  h.set_ (by omega) ⟨rfl, rfl, rfl⟩ fun cs h1 h2 h3 h4 hs => ⟨by simp [h1], by simp [h2], by simp [lt_of_get h3], by simp [h4], fun k hk => by rw [Array.getElem?_setIfInBounds_ne (by omega)]; exact hs k hk⟩
theorem SeqAt.rs_ (h : SeqAt w b S) (r : Int) : SeqAt (w.setCell ⟨b, 324, none⟩ (.int .i64 r)) b { S with rs := r } :=
  h.set_ (by omega) ⟨rfl, rfl, rfl⟩ fun cs h1 h2 h3 h4 hs => ⟨by simp [h1], by simp [h2], by simp [h3], by simp [lt_of_get h4], fun k hk => by rw [Array.getElem?_setIfInBounds_ne (by omega)]; exact hs k hk⟩
theorem SeqAt.sc_ (h : SeqAt w b S) {j : Nat} (hj : j < 320) : SeqAt (w.setCell ⟨b, 4 + j, none⟩ (.bool true)) b { S with sc := setF S.sc j } := by
  refine h.set_ (by omega) ⟨rfl, rfl, rfl⟩ fun cs h1 h2 h3 h4 hs => ⟨?_, ?_, ?_, ?_, fun k hk => ?_⟩
  · rw [Array.getElem?_setIfInBounds_ne (by omega)]; exact h1
  · rw [Array.getElem?_setIfInBounds_ne (by omega)]; exact h2
  · rw [Array.getElem?_setIfInBounds_ne (by omega)]; exact h3
  · rw [Array.getElem?_setIfInBounds_ne (by omega)]; exact h4
  · by_cases e : k = j
    · subst e
      rw [Array.getElem?_setIfInBounds_self, if_pos (lt_of_get (hs k hk))]
      simp [setF]
    · rw [Array.getElem?_setIfInBounds_ne (by omega), hs k hk]
      simp [setF, e]
theorem SeqAt.lo0 (h : SeqAt w b S) : SeqAt w b { S with lo := 0 } := by
  obtain ⟨A, cp, cs, hb0, h0, h1, h2, h3, h4, hs, ho, hli⟩ := h
  exact ⟨A, cp, cs, hb0, h0, h1, h2, h3, h4, hs, own_base ho (Nat.zero_le _), hli⟩
/-- Blocks below lo may turn. -/
theorem SeqAt.frLo {L : List Nat} (h : SeqAt w b S) (k : Fr L w w') (hb : b ∉ L) (hL : ∀ g, g ∈ L → g < S.lo) : SeqAt w' b S := by
  obtain ⟨A, cp, cs, hb0, h0, h1, h2, h3, h4, hs, ho, hli⟩ := h
  refine ⟨A, cp, cs, hb0.fr k hb, h0, h1, h2, h3, h4, hs, own_fr ho k fun g hg hm => ?_, hli⟩
  have h5 := (own_block ho hg).1
  have h6 := hL g hm
  omega
end
end Go.Proofs.Ytdocdgghphhdpaa
