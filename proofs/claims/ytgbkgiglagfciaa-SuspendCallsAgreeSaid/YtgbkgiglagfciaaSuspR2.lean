/- The reference's sequence in memory; walks: settle, Next, Asleep, Result, phase. -/
import Derived.Test.YtgbkgiglagfciaaSuspR1
namespace Go.Proofs.Ytgbkgiglagfciaa
open Go.RowKit

theorem own_cap {w : World} {base e size n cp : Nat} {A : Option Addr} {xs : List Value} (h : w.ownsRow base e size (.slice A n cp) n xs) : n ≤ cp := by
  rcases h.2 with ⟨h0, h1⟩ | ⟨g, cap, cur, hv, _, _, hnc, _⟩
  · omega
  · injection hv with _ _ h3
    omega
/-- A plan that is only read: its cells lie in one block of sleep operations, from some place on. -/
def PlanAt (w : World) (A : Option Addr) (l : List (Nat × Nat)) : Prop :=
  0 < l.length → ∃ ob oo cs, A = some ⟨ob, oo, none⟩ ∧ Blk w ob 30 cs ∧ ∀ i u, (opCells l)[i]? = some u → cs[oo + i]? = some u
structure RefParts (w : World) (F : List Nat) (ord : List Nat) (plan good : List (Nat × Nat)) (vo : Value) (A : Option Addr) (vg : Value) : Prop where
  own : w.ownsRow 0 3 1 vo ord.length (ord.map nv)
  hplan : PlanAt w A plan
  hgood : w.ownsRow 0 30 2 vg good.length (opCells good)
  apart : 0 < plan.length → ∀ ad, A = some ad → vg.ownBlock ≠ some ad.block
  fo : ∀ g, vo.ownBlock = some g → g ∈ F
  fp : 0 < plan.length → ∀ ad, A = some ad → ad.block ∈ F
  fg : ∀ g, vg.ownBlock = some g → g ∈ F
def refCells (vo : Value) (A : Option Addr) (cp : Nat) (vg : Value) (R : RSeq) : Array Value := #[vo, .slice A R.plan.length cp, vg, .bool R.down, .bool R.sleeps, .bool R.done, .int .i64 R.code]
def RefAt (w : World) (b : Nat) (F : List Nat) (R : RSeq) : Prop :=
  ∃ (vo : Value) (A : Option Addr) (cp : Nat) (vg : Value), Blk w b 74 (refCells vo A cp vg R) ∧ b ∈ F ∧ R.plan.length ≤ cp ∧ RefParts w F R.ord R.plan R.good vo A vg

section
variable {w w' : World} {b : Nat} {F L : List Nat} {R : RSeq} {ord : List Nat} {plan good : List (Nat × Nat)} {vo vg : Value} {A : Option Addr}
theorem PlanAt.nil (w : World) (A : Option Addr) : PlanAt w A [] := fun h => absurd h (by simp)
theorem PlanAt.fr (h : PlanAt w A plan) (k : Fr L w w') (hL : 0 < plan.length → ∀ ad, A = some ad → ad.block ∉ L) : PlanAt w' A plan := fun hl => by
  obtain ⟨ob, oo, cs, e, hb, hc⟩ := h hl
  exact ⟨ob, oo, cs, e, hb.fr k (show ob ∉ L from hL hl ⟨ob, oo, none⟩ e), hc⟩
theorem PlanAt.row (h : PlanAt w A plan) : Row w A (opCells plan) := fun hl => by
  obtain ⟨ob, oo, cs, e, hb, hc⟩ := h (by rw [opCells_length] at hl; omega)
  exact ⟨ob, oo, e, fun i u hi => (hb.cell _).trans (hc i u hi)⟩
theorem PlanAt.of_own {base n cp : Nat} (h : w.ownsRow base 30 2 (.slice A n cp) n (opCells plan)) : PlanAt w A plan := fun hl => by
  rcases h.2 with ⟨h0, h1⟩ | ⟨g, cap, cur, hv, _, hh, hnc, _, hcur, hx⟩
  · have := h.1
    rw [opCells_length, h1] at this
    omega
  · have hA : A = some ⟨g, 0, none⟩ := by injection hv
    refine ⟨g, 0, cur, hA, hh, fun i u hi => ?_⟩
    rw [← hx, List.getElem?_take] at hi
    split at hi
    · simpa using hi
    · cases hi
theorem RefParts.fr (h : RefParts w F ord plan good vo A vg) (k : Fr L w w') (hd : ∀ g, g ∈ F → g ∉ L) : RefParts w' F ord plan good vo A vg :=
  ⟨own_fr h.own k fun g hg => hd g (h.fo g hg), h.hplan.fr k fun hl ad e => hd _ (h.fp hl ad e), own_fr h.hgood k fun g hg => hd g (h.fg g hg), h.apart, h.fo, h.fp, h.fg⟩
theorem RefParts.frb {cs : Array Value} (h : RefParts w F ord plan good vo A vg) (hb : Blk w b 74 cs) (k : Fr [b] w w') : RefParts w' F ord plan good vo A vg := by
  refine ⟨own_fr h.own k fun g hg hm => ?_, h.hplan.fr k fun hl ad e hm => ?_, own_fr h.hgood k fun g hg hm => ?_, h.apart, h.fo, h.fp, h.fg⟩
  · obtain ⟨_, _, cs', h'⟩ := own_block h.own hg
    have e : g = b := by simpa using hm
    subst e
    exact Blk.ne_ h' hb (by decide) rfl
  · obtain ⟨ob, oo, cs', e', hb', _⟩ := h.hplan hl
    rw [e] at e'
    cases e'
    have e2 : ob = b := by simpa using hm
    subst e2
    exact Blk.ne_ hb' hb (by decide) rfl
  · obtain ⟨_, _, cs', h'⟩ := own_block h.hgood hg
    have e : g = b := by simpa using hm
    subst e
    exact Blk.ne_ h' hb (by decide) rfl
theorem RefParts.mono (h : RefParts w F ord plan good vo A vg) {F' : List Nat} (hf : ∀ g, g ∈ F → g ∈ F') : RefParts w F' ord plan good vo A vg :=
  ⟨h.own, h.hplan, h.hgood, h.apart, fun g hg => hf _ (h.fo g hg), fun hl ad e => hf _ (h.fp hl ad e), fun g hg => hf _ (h.fg g hg)⟩
theorem RefAt.fr (h : RefAt w b F R) (k : Fr L w w') (hd : ∀ g, g ∈ F → g ∉ L) : RefAt w' b F R := by
  obtain ⟨vo, A, cp, vg, hb, hf, hcap, hp⟩ := h
  exact ⟨vo, A, cp, vg, hb.fr k (hd b hf), hf, hcap, hp.fr k hd⟩
theorem RefAt.fr0 (h : RefAt w b F R) (k : Fr [] w w') : RefAt w' b F R := h.fr k (fun _ _ => by simp)
theorem RefAt.lt (h : RefAt w b F R) : b < w.heap.size := by
  obtain ⟨vo, A, cp, vg, hb, _⟩ := h
  exact hb.lt
theorem RefAt.mem (h : RefAt w b F R) : b ∈ F := by
  obtain ⟨vo, A, cp, vg, hb, hf, _, _⟩ := h
  exact hf
end

set_option maxHeartbeats 400000 in
theorem settle_any {b : Nat} {F : List Nat} {R : RSeq} {w : World} (h : RefAt w b F R) :
    Calls Try.prog 44 #[.pointer (some ⟨b, 0, none⟩)] w fun e w' => e = .returned (.tuple #[]) ∧ RefAt w' b F R.settle ∧ Fr [b] w w' := by
  obtain ⟨vo, A, cp, vg, hb, hf, hcap, hp⟩ := h
  have c1 := hb.cell 1
  have c3 := hb.cell 3
  have c4 := hb.cell 4
  have c5 := hb.cell 5
  simp [refCells] at c1 c3 c4 c5
  have f3 := hb.frozen 3
  have f4 := hb.frozen 4
  have f5 := hb.frozen 5
  have HB := hide hb
  clear hb
  by_cases hpl : R.plan.length > 0
  · have h0 : (0 : Int) < (R.plan.length : Int) := by omega
    go_enter Try.func44, Try.ntmps44
    go_wp2
    refine bodyPost_ret (results_none rfl _ _ _) rfl ?_
    refine ⟨rfl, ?_, Fr.refl _ _⟩
    unfold RSeq.settle
    rw [if_pos hpl]
    exact ⟨vo, A, cp, vg, HB.out, hf, hcap, hp⟩
  · have h0 : ¬ (0 : Int) < (R.plan.length : Int) := by omega
    cases hd : R.down
    · cases hs : R.sleeps
      · rw [hd] at c3
        rw [hs] at c4
        have HD := hide hd
        have HS := hide hs
        clear hd hs
        go_enter Try.func44, Try.ntmps44
        go_wp2
        go_end0
        refine ⟨rfl, ?_, (Fr.refl _ _).set (.inl (by simp)) _⟩
        have e : R.settle = { R with done := true } := by unfold RSeq.settle; simp [hpl, HD.out, HS.out]
        rw [e]
        exact ⟨vo, A, cp, vg, HB.out.set_ 5 _, hf, hcap, hp.frb HB.out ((Fr.refl _ _).set (.inl (by simp)) _)⟩
      · rw [hd] at c3
        rw [hs] at c4
        have HD := hide hd
        have HS := hide hs
        clear hd hs
        go_enter Try.func44, Try.ntmps44
        go_wp2
        go_end0
        refine ⟨rfl, ?_, Fr.refl _ _⟩
        have e : R.settle = R := by unfold RSeq.settle; simp [hpl, HD.out, HS.out]
        rw [e]
        exact ⟨vo, A, cp, vg, HB.out, hf, hcap, hp⟩
    · rw [hd] at c3
      have HD := hide hd
      clear hd
      go_enter Try.func44, Try.ntmps44
      go_wp2
      go_end0
      refine ⟨rfl, ?_, ((Fr.refl _ _).set (.inl (by simp)) _).set (.inl (by simp)) _⟩
      have e : R.settle = { R with down := false, sleeps := true } := by unfold RSeq.settle; simp [hpl, HD.out]
      rw [e]
      exact ⟨vo, A, cp, vg, (HB.out.set_ 3 _).set_ 4 _, hf, hcap, hp.frb HB.out (((Fr.refl _ _).set (.inl (by simp)) _).set (.inl (by simp)) _)⟩
end Go.Proofs.Ytgbkgiglagfciaa
