/- The law's want, walked; plain: what a call leaves small. (Written by a program.) -/
import Derived.Test.YtbnfdpemfmeldaaRfW5Mg
import Derived.Test.YtbnfdpemfmeldaaRpmW7Mg
import Derived.Test.YtbnfdpemfmeldaaRpmP3Mg
namespace Go.Proofs.Ytbnfdpemfmeldaa
open Go.RowKit

theorem onAll_use (r : Nat → Bool) (now : Nat) (l : List Nat) : ∀ (p : RS × List POp), (l.foldl (onStep r now) p).1.use = p.1.use ∧ (l.foldl (onStep r now) p).1.clk = p.1.clk := by
  induction l with
  | nil => intro p; exact ⟨rfl, rfl⟩
  | cons a l ih =>
    intro p
    rw [List.foldl_cons]
    obtain ⟨h1, h2⟩ := ih (onStep r now p a)
    rw [h1, h2]
    unfold onStep
    split <;> exact ⟨rfl, rfl⟩
theorem getM_use (M : RM) (s : RS) (d t : Nat) : (getM M s d t).1.use = setF s.use d (s.use d + 1) ∧ (getM M s d t).1.clk = t := by
  obtain ⟨h1, h2⟩ := onAll_use (reqM M d) t M.ord (useS (expM M t { s with clk := t } []).1 d ((expM M t { s with clk := t } []).1.use d + 1), (expM M t { s with clk := t } []).2)
  obtain ⟨h3, h4⟩ := expM_clk M t { s with clk := t } []
  refine ⟨h1.trans ?_, h2.trans ?_⟩
  · show setF (expM M t { s with clk := t } []).1.use d _ = _
    rw [h4]
  · exact h3
/-- What a call leaves: small numbers. -/
theorem doC_ok {M : RM} {s : RS} (hs : SOk M s) {k : Nat} (hu : ∀ i, s.use i ≤ k) (hk : k < 4096) (c : CL) (now : Nat) : SOk M (doC M s c now).1 ∧ ∀ i, (doC M s c now).1.use i ≤ k + 1 := by
  have hle : ∀ (f : Nat → Nat) (d u : Nat), (∀ i, f i ≤ k) → u ≤ k + 1 → ∀ i, setF f d u i ≤ k + 1 := fun f d u hf hu i => by
    unfold setF
    split
    · exact hu
    · exact Nat.le_succ_of_le (hf i)
  have same : SOk M s ∧ ∀ i, s.use i ≤ k + 1 := ⟨hs, fun i => Nat.le_succ_of_le (hu i)⟩
  have hsin : ∀ {lim : Nat} (s' : RS) (ops : List POp), lim ≤ 1152921504606846976 → SinLe s' 1152921504606846976 → SinLe (expM M lim s' ops).1 1152921504606846976 := fun s' ops hl h => expK_sin hl _ _ _ h
  have put : ∀ d t, SOk M (putC M s d t).1 ∧ ∀ i, (putC M s d t).1.use i ≤ k + 1 := fun d t => by
    unfold putC
    split
    · rename_i hp
      split
      · exact same
      · obtain ⟨h1, h2⟩ := putM_use M s d.toNat t
        have h3 : ∀ i, (putM M s d.toNat t).1.use i ≤ k + 1 := by
          rw [h1]
          exact hle _ _ _ hu (by have := hu d.toNat; omega)
        refine ⟨⟨?_, fun i => Nat.le_trans (h3 i) (by omega), by rw [h2]; exact hp.2.2⟩, h3⟩
        refine hsin _ _ hp.2.2 ?_
        have h4 := hsin { s with clk := t } [] hp.2.2 hs.sin
        intro i
        show (idleS M _ d.toNat t).sin i ≤ _
        unfold idleS
        split
        · show setF _ d.toNat t i ≤ _
          unfold setF
          split
          · exact hp.2.2
          · exact h4 i
        · exact h4 i
    · exact same
  have adv : ∀ t, SOk M (advC M s t).1 ∧ ∀ i, (advC M s t).1.use i ≤ k + 1 := fun t => by
    unfold advC
    split
    · rename_i hp
      obtain ⟨h1, h2⟩ := advM_use M s t
      have h3 : ∀ i, (advM M s t).1.use i ≤ k + 1 := by
        rw [h1]
        exact same.2
      exact ⟨⟨hsin { s with clk := t } [] hp.2 hs.sin, fun i => Nat.le_trans (h3 i) (by omega), by rw [h2]; exact hp.2⟩, h3⟩
    · exact same
  have get : ∀ d t, SOk M (getC M s d t).1 ∧ ∀ i, (getC M s d t).1.use i ≤ k + 1 := fun d t => by
    unfold getC
    split
    · rename_i hp
      obtain ⟨h1, h2⟩ := getM_use M s d.toNat t
      have h3 : ∀ i, (getM M s d.toNat t).1.use i ≤ k + 1 := by
        rw [h1]
        exact hle _ _ _ hu (by have := hu d.toNat; omega)
      refine ⟨⟨?_, fun i => Nat.le_trans (h3 i) (by omega), by rw [h2]; exact hp.2.2⟩, h3⟩
      have h4 := hsin { s with clk := t } [] hp.2.2 hs.sin
      intro i
      have h5 := onAll_sin (reqM M d.toNat) t M.ord (useS (expM M t { s with clk := t } []).1 d.toNat ((expM M t { s with clk := t } []).1.use d.toNat + 1), (expM M t { s with clk := t } []).2)
      exact Nat.le_trans (Nat.le_of_eq (congrFun h5 i)) (h4 i)
    · exact same
  unfold doC
  split
  · exact put _ _
  · split
    · exact adv _
    · exact get _ _
section
variable {M : RM}
theorem expM_len (hM : MOk M) (t : Nat) (s : RS) (ops : List POp) : (expM M t s ops).2.length ≤ ops.length + 64 := by
  have h1 := expK_len (M := M) t (M.n + 1) s ops
  have h2 := nAct_le M s
  have h3 := hM.n
  unfold expM
  omega
theorem onAll_len (r : Nat → Bool) (now : Nat) (l : List Nat) : ∀ (p : RS × List POp), (l.foldl (onStep r now) p).2.length ≤ p.2.length + l.length := by
  induction l with
  | nil => intro p; exact Nat.le_refl _
  | cons a l ih =>
    intro p
    rw [List.foldl_cons, List.length_cons]
    have h1 := ih (onStep r now p a)
    have h2 := onStep_len r now p a
    omega
/-- Few operations. -/
theorem doC_len (hM : MOk M) (s : RS) (c : CL) (now : Nat) : (doC M s c now).2.1.length ≤ 4096 := by
  have put : ∀ d t, (putC M s d t).2.1.length ≤ 4096 := fun d t => by
    unfold putC
    split
    · split
      · exact Nat.zero_le _
      · have h1 := expM_len hM t { s with clk := t } []
        have h2 := expM_len hM t (idleS M (useS (expM M t { s with clk := t } []).1 d.toNat ((expM M t { s with clk := t } []).1.use d.toNat - 1)) d.toNat t) (expM M t { s with clk := t } []).2
        have h3 : (putM M s d.toNat t).2.length ≤ _ := h2
        simp at h1
        show (putM M s d.toNat t).2.length ≤ 4096
        omega
    · exact Nat.zero_le _
  have adv : ∀ t, (advC M s t).2.1.length ≤ 4096 := fun t => by
    unfold advC
    split
    · have h1 := expM_len hM t { s with clk := t } []
      have h3 : (advM M s t).2.length ≤ _ := h1
      simp at h3
      show (advM M s t).2.length ≤ 4096
      omega
    · exact Nat.zero_le _
  have get : ∀ d t, (getC M s d t).2.1.length ≤ 4096 := fun d t => by
    unfold getC
    split
    · have h1 := expM_len hM t { s with clk := t } []
      have h2 := onAll_len (reqM M d.toNat) t M.ord (useS (expM M t { s with clk := t } []).1 d.toNat ((expM M t { s with clk := t } []).1.use d.toNat + 1), (expM M t { s with clk := t } []).2)
      have h3 : (getM M s d.toNat t).2.length ≤ _ := h2
      have h4 := hM.ol
      have h5 := hM.n
      simp at h1 h3
      show (getM M s d.toNat t).2.length ≤ 4096
      omega
    · exact Nat.zero_le _
  unfold doC
  split
  · exact put _ _
  · split
    · exact adv _
    · exact get _ _
end
set_option maxHeartbeats 4000000 in
theorem want28_any {w : World} {P : RL} {M : RM} {l : List ID} {s : RS} (C : RCtx M l) (h : RgIn w P l s) (hs : SOk M s) (hbb : P.bot ≤ P.top) (ht : P.top ≤ w.heap.size) (hu : ∀ i, s.use i < 4096) (c : CL) (now : Nat) (hn : now ≤ 1152921504606846976) :
    Calls Try.prog 27 #[.pointer (some ⟨P.b, 0, none⟩), .agg #[.int .i64 c.kind, .int .i64 c.dev, .int .u64 (c.wait : Int), .bool c.raw], .int .i64 (M.n : Int), uv now] w (CallRetR w P l (doC M s c now)) := by
  have HIN := hide h
  have HC := hide C
  have hM := C.hM
  have HSO := hide hs
  have HU := hide hu
  have hn64 := hM.n
  have hb := Blk.new w 54 #[.int .i64 c.kind, .int .i64 c.dev, .int .u64 (c.wait : Int), .bool c.raw]
  have hf : Fr [] w (w.alloc (.cells #[.int .i64 c.kind, .int .i64 c.dev, .int .u64 (c.wait : Int), .bool c.raw] 54)) := (Fr.refl _ _).alloc _
  clear h hM hs hu C
  go_enter Try.func27, Try.ntmps27
  go_upto_region 1 with (fail)
  generalize w.alloc (.cells #[.int .i64 c.kind, .int .i64 c.dev, .int .u64 (c.wait : Int), .bool c.raw] 54) = w1 at hb hf ⊢
  generalize w.heap.size = g at hb ⊢
  have c0 : w1.cell? ⟨g, 0, none⟩ = some (.int .i64 c.kind) := hb.cell 0
  have c1 : w1.cell? ⟨g, 1, none⟩ = some (.int .i64 c.dev) := hb.cell 1
  have c2 : w1.cell? ⟨g, 2, none⟩ = some (.int .u64 (c.wait : Int)) := hb.cell 2
  have c3 : w1.cell? ⟨g, 3, none⟩ = some (.bool c.raw) := hb.cell 3
  go_wp2_with fail
  refine (at28_any c M.n now w1 hn64 hn).mono ?_
  rintro e w2 ⟨rfl, hf2⟩
  have d0 := hf2.cell c0 (by simp)
  have hfw := hf.call hf2
  have hz := hfw.size
  have HIN2 := hide (HIN.out.fr0 hfw)
  have HDO : Hid (doC M s c now = if umod c.kind 4 = 2 then putC M s (atM c M.n now).1 (atM c M.n now).2 else if umod c.kind 4 = 3 then advC M s (atM c M.n now).2 else getC M s (atM c M.n now).1 (atM c M.n now).2) := hide rfl
  clear c0 c1 c2 c3 hb
  generalize (atM c M.n now).1 = d at HDO ⊢
  generalize (atM c M.n now).2 = t at HDO ⊢
  go_wp2_with fail
  refine (mod_any c.kind 4 w2 (by omega) (by omega)).mono ?_
  rintro e w3 ⟨rfl, rfl⟩
  have h4 := umod_lt c.kind (show 0 < 4 by omega)
  generalize umod c.kind 4 = q at h4 HDO ⊢
  by_cases h2 : q = 2
  · rw [if_pos h2] at HDO
    subst h2
    go_wp2_with fail
    refine (rput28_any HC.out HIN2.out HSO.out hbb (by omega) d t).mono ?_
    rintro e w4 ⟨v, rfl, hin, hown, hf4⟩
    rw [← HDO.out] at hin hown ⊢
    have HI4 := hide hin
    have HO4 := hide (own_base hown hz)
    have HF4 : Hid (Fr P.own w w4) := hide ((hfw.mono (fun _ _ h => by cases h)).trans hf4)
    clear hin hown
    go_wp2
    go_ret2
    exact ⟨v, rfl, HI4.out, HO4.out, HF4.out⟩
  · by_cases h3 : q = 3
    · rw [if_neg h2, if_pos h3] at HDO
      subst h3
      clear h2
      go_wp2_with fail
      refine (radvance28_any HC.out HIN2.out HSO.out hbb (by omega) t).mono ?_
      rintro e w4 ⟨v, rfl, hin, hown, hf4⟩
      rw [← HDO.out] at hin hown ⊢
      have HI4 := hide hin
      have HO4 := hide (own_base hown hz)
      have HF4 : Hid (Fr P.own w w4) := hide ((hfw.mono (fun _ _ h => by cases h)).trans hf4)
      clear hin hown
      go_wp2
      go_ret2
      exact ⟨v, rfl, HI4.out, HO4.out, HF4.out⟩
    · rw [if_neg h2, if_neg h3] at HDO
      have b2 : ((q : Int) == 2) = false := by simp; omega
      have b3 : ((q : Int) == 3) = false := by simp; omega
      clear h2 h3
      go_wp2_with fail
      refine (rget28_any HC.out HIN2.out HSO.out hbb (by omega) HU.out d t).mono ?_
      rintro e w4 ⟨v, rfl, hin, hown, hf4⟩
      rw [← HDO.out] at hin hown ⊢
      have HI4 := hide hin
      have HO4 := hide (own_base hown hz)
      have HF4 : Hid (Fr P.own w w4) := hide ((hfw.mono (fun _ _ h => by cases h)).trans hf4)
      clear hin hown
      go_wp2
      go_ret2
      exact ⟨v, rfl, HI4.out, HO4.out, HF4.out⟩
end Go.Proofs.Ytbnfdpemfmeldaa

