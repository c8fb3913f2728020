/- Walks of the methods, said with Dn and Un (what is done, what is planned). -/
import Derived.Test.YtgbkgiglagfciaaSuspP3
namespace Go.Proofs.Ytgbkgiglagfciaa
open Go.RowKit

def DnAt (w : World) (b : Nat) (o : List Nat) (k : Nat) : Prop := ∃ S, SeqAt w b S ∧ Dn S o k
def UnAt (w : World) (b : Nat) (L : List (Nat × Nat)) (c : Int) : Prop := ∃ S, SeqAt w b S ∧ Un S L c
section
variable {w w' : World} {b : Nat} {o : List Nat} {k : Nat} {L : List (Nat × Nat)} {c : Int}
theorem DnAt.lt (h : DnAt w b o k) : b < w.heap.size := by obtain ⟨S, h, _⟩ := h; exact h.lt
theorem UnAt.lt (h : UnAt w b L c) : b < w.heap.size := by obtain ⟨S, h, _⟩ := h; exact h.lt
theorem DnAt.fr0 (h : DnAt w b o k) (f : Fr [] w w') : DnAt w' b o k := by obtain ⟨S, h, hd⟩ := h; exact ⟨S, h.fr0 f, hd⟩
theorem UnAt.fr0 (h : UnAt w b L c) (f : Fr [] w w') : UnAt w' b L c := by obtain ⟨S, h, hd⟩ := h; exact ⟨S, h.fr0 f, hd⟩
theorem DnAt.blk (h : DnAt w b o k) : ∃ t cs, Blk w b t cs ∧ t ≠ 3 := by obtain ⟨S, h, _⟩ := h; exact h.blk
theorem UnAt.blk (h : UnAt w b L c) : ∃ t cs, Blk w b t cs ∧ t ≠ 3 := by obtain ⟨S, h, _⟩ := h; exact h.blk
theorem DnAt.fr {F : List Nat} (h : DnAt w b o k) (f : Fr F w w') (hb : b ∉ F) (hL : ∀ g, g ∈ F → g < w.heap.size → ∃ t cs, Blk w g t cs ∧ t ≠ 3) : DnAt w' b o k := by
  obtain ⟨S, h, hd⟩ := h; exact ⟨S, h.fr f hb hL, hd⟩
theorem UnAt.fr {F : List Nat} (h : UnAt w b L c) (f : Fr F w w') (hb : b ∉ F) (hL : ∀ g, g ∈ F → g < w.heap.size → ∃ t cs, Blk w g t cs ∧ t ≠ 3) : UnAt w' b L c := by
  obtain ⟨S, h, hd⟩ := h; exact ⟨S, h.fr f hb hL, hd⟩

theorem dn_complete (h : DnAt w b o k) (hk : k < 4 * o.length) :
    Calls Try.prog 20 #[.pointer (some ⟨b, 0, none⟩), .int .i64 0] w fun e w' => e = .returned (.int .i64 0) ∧ DnAt w' b o (k + 1) ∧ Fr [b] w w' := by
  obtain ⟨S, h, hd⟩ := h
  refine (complete_any 0 h hd.ok).mono ?_
  rintro e w' ⟨rfl, h1, h2⟩
  obtain ⟨e, h3⟩ := hd.step hk
  rw [e] at h1 ⊢
  exact ⟨rfl, ⟨_, h1, h3⟩, h2⟩
theorem dn_fail (h : DnAt w b o k) (hn : o.Nodup) (hk : k < 4 * o.length) (hc : c ≠ 0) :
    Calls Try.prog 20 #[.pointer (some ⟨b, 0, none⟩), .int .i64 c] w fun e w' => e = .returned (.int .i64 0) ∧ UnAt w' b (undoPlan o (goodK o k)) c ∧ Fr [b] w w' := by
  obtain ⟨S, h, hd⟩ := h
  refine (complete_any c h hd.ok).mono ?_
  rintro e w' ⟨rfl, h1, h2⟩
  obtain ⟨e, h3⟩ := hd.fail hn hk hc
  rw [e]
  exact ⟨rfl, ⟨_, h1, h3⟩, h2⟩
theorem dn_abort (h : DnAt w b o k) (hn : o.Nodup) (hk : k < 4 * o.length) :
    Calls Try.prog 25 #[.pointer (some ⟨b, 0, none⟩)] w fun e w' => e = .returned (.int .i64 0) ∧ UnAt w' b (undoPlan o (goodK o k)) 20 ∧ Fr [b] w w' := by
  obtain ⟨S, h, hd⟩ := h
  refine (abort_any h hd.ok.ord).mono ?_
  rintro e w' ⟨rfl, h1, h2⟩
  obtain ⟨e, h3⟩ := hd.abort hn hk
  rw [e]
  exact ⟨rfl, ⟨_, h1, h3⟩, h2⟩
theorem dn_wake (h : DnAt w b o k) (hn : o.Nodup) (hk : k = 4 * o.length) :
    Calls Try.prog 22 #[.pointer (some ⟨b, 0, none⟩)] w fun e w' => e = .returned (.int .i64 0) ∧ UnAt w' b (undoPlan o (goodK o k)) 0 ∧ Fr [b] w w' := by
  obtain ⟨S, h, hd⟩ := h
  refine (wake_any h hd.ok.ord).mono ?_
  rintro e w' ⟨rfl, h1, h2⟩
  obtain ⟨e, h3⟩ := hd.wake hn hk
  rw [e]
  exact ⟨rfl, ⟨_, h1, h3⟩, h2⟩
theorem dn_asleep (h : DnAt w b o k) :
    Calls Try.prog 21 #[.pointer (some ⟨b, 0, none⟩)] w fun e w' => e = .returned (.bool (decide (k = 4 * o.length))) ∧ w = w' := by
  obtain ⟨S, h, hd⟩ := h
  have := asleep_any h
  rwa [hd.asleep] at this
theorem dn_next (h : DnAt w b o k) (hk : k < 4 * o.length) :
    Calls Try.prog 28 #[.pointer (some ⟨b, 0, none⟩)] w fun e w' => e = .returned (.tuple #[.agg #[nv (opAt o k).1, nv (opAt o k).2], .bool true]) ∧ Fr [] w w' := by
  obtain ⟨S, h, hd⟩ := h
  have := next_any h hd.ok
  rwa [hd.next hk] at this
theorem un_complete {x : Nat × Nat} (r : Int) (h : UnAt w b (x :: L) c) :
    Calls Try.prog 20 #[.pointer (some ⟨b, 0, none⟩), .int .i64 r] w fun e w' => e = .returned (.int .i64 0) ∧ UnAt w' b L (if c = 0 then r else c) ∧ Fr [b] w w' := by
  obtain ⟨S, h, hd⟩ := h
  refine (complete_any r h hd.ok).mono ?_
  rintro e w' ⟨rfl, h1, h2⟩
  obtain ⟨e, h3⟩ := hd.step r
  rw [e]
  exact ⟨rfl, ⟨_, h1, h3⟩, h2⟩
theorem un_complete0 (r : Int) (h : UnAt w b [] c) :
    Calls Try.prog 20 #[.pointer (some ⟨b, 0, none⟩), .int .i64 r] w fun e w' => e = .returned (.int .i64 9) ∧ UnAt w' b [] c ∧ Fr [b] w w' := by
  obtain ⟨S, h, hd⟩ := h
  refine (complete_any r h hd.ok).mono ?_
  rintro e w' ⟨rfl, h1, h2⟩
  rw [hd.done r] at h1 ⊢
  exact ⟨rfl, ⟨_, h1, hd⟩, h2⟩
theorem un_next {x : Nat × Nat} (h : UnAt w b (x :: L) c) :
    Calls Try.prog 28 #[.pointer (some ⟨b, 0, none⟩)] w fun e w' => e = .returned (.tuple #[.agg #[nv x.1, nv x.2], .bool true]) ∧ Fr [] w w' := by
  obtain ⟨S, h, hd⟩ := h
  have := next_any h hd.ok
  rwa [hd.next] at this
theorem un_next0 (h : UnAt w b [] c) :
    Calls Try.prog 28 #[.pointer (some ⟨b, 0, none⟩)] w fun e w' => e = .returned (.tuple #[.agg #[nv 0, nv 0], .bool false]) ∧ Fr [] w w' := by
  obtain ⟨S, h, hd⟩ := h
  have := next_any h hd.ok
  rwa [hd.next0] at this
theorem un_result {x : Nat × Nat} (h : UnAt w b (x :: L) c) :
    Calls Try.prog 23 #[.pointer (some ⟨b, 0, none⟩)] w fun e w' => e = .returned (.tuple #[.int .i64 0, .bool false]) ∧ w = w' := by
  obtain ⟨S, h, hd⟩ := h
  have := result_any h
  rwa [hd.result] at this
theorem un_result0 (h : UnAt w b [] c) :
    Calls Try.prog 23 #[.pointer (some ⟨b, 0, none⟩)] w fun e w' => e = .returned (.tuple #[.int .i64 c, .bool true]) ∧ w = w' := by
  obtain ⟨S, h, hd⟩ := h
  have := result_any h
  rwa [hd.result0] at this
theorem un_asleep (h : UnAt w b L c) :
    Calls Try.prog 21 #[.pointer (some ⟨b, 0, none⟩)] w fun e w' => e = .returned (.bool false) ∧ w = w' := by
  obtain ⟨S, h, hd⟩ := h
  have := asleep_any h
  rwa [hd.asleep] at this
end
theorem new_ord (A : Option Addr) (cp : Nat) (o : List Nat) (w : World) (hok : okB (toInts o) = true) (hr : Row w A (o.map nv)) (hA : A = none → cp = 0) :
    Calls Try.prog 18 #[.slice A o.length cp] w fun e w' => ∃ b, e = .returned (.tuple #[.pointer (some ⟨b, 0, none⟩), .int .i64 0]) ∧ w.heap.size ≤ b ∧ DnAt w' b o 0 ∧ Fr [] w w' := by
  obtain ⟨h64, hg⟩ := okB_iff.1 hok
  have hli : o.length = (toInts o).length := by simp [toInts]
  rw [hli]
  refine (new_any A cp (toInts o) w (by rw [toInts_nv]; exact hr) hA (by omega)).mono ?_
  rintro e w1 (⟨hno, rfl, hfr⟩ | ⟨_, b, rfl, hbg, hat, hfr⟩)
  · exact absurd ⟨h64, hg⟩ hno
  · refine ⟨b, rfl, hbg, ⟨_, hat, ?_⟩, hfr⟩
    have ho : OkOrd o := by have := okOrd_of_good h64 hg; rwa [toInts_toNat] at this
    have := Dn.init ho
    unfold seq0 at this
    rw [toInts_toNat, ← hli]
    exact this
end Go.Proofs.Ytgbkgiglagfciaa
