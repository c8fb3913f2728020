/- Walks: law28's awake. -/
import Derived.Test.YtdocdgghphhdpaaRpmNMg
import Derived.Test.YtdocdgghphhdpaaMgRpInUse19
import Derived.Test.YtdocdgghphhdpaaRpmW7Mg
import Derived.Test.YtdocdgghphhdpaaRpmP3Mg
import Derived.Test.YtdocdgghphhdpaaMgRpInUse22
import Derived.Test.YtdocdgghphhdpaaMgRpInUse14
namespace Go.Proofs.Ytdocdgghphhdpaa
open Go.RowKit

def NewOk (w : World) (l : List ID) (e : Ending) (w' : World) : Prop :=
  ∃ P : ML, e = .returned (.tuple #[.pointer (some ⟨P.b, 0, none⟩), .int .i64 0]) ∧ MgIn w' P (newRM l) zeroS ∧ w.heap.size ≤ P.b ∧ w.heap.size ≤ P.g ∧ P.top ≤ w'.heap.size ∧ Fr [] w w' ∧ P.bot = w.heap.size
/-- New where it accepts the devices. -/
theorem new28_ok (A : Option Addr) (cp : Nat) (l : List ID) (w : World) (hr : IdsAt w A l) (hl : l.length ≤ 20) (hs : ∀ x ∈ l, x.sup.length ≤ 21) (h0 : newE l = 0) :
    Calls Try.prog 42 #[.slice A l.length cp] w (NewOk w l) := by
  refine (new28_any A cp l w hr hl hs).mono ?_
  rintro e w' (⟨hne, -⟩ | ⟨-, P, he, hin, hbot, htop, hf⟩)
  · exact absurd h0 hne
  · exact ⟨P, he, hin, by rw [← hbot]; exact hin.bot.1, by rw [← hbot]; exact hin.bot.2, htop, hf, hbot⟩
def demoI : List ID := [⟨-1, .slice none 0 0, 0, []⟩, ⟨0, .slice none 0 0, 5, []⟩]
theorem demo8 : Dev8 demoI := by
  have key : ∀ (i : Nat) (d : ID), demoI[i]? = some d → (i = 0 ∧ d = ⟨-1, .slice none 0 0, 0, []⟩) ∨ (i = 1 ∧ d = ⟨0, .slice none 0 0, 5, []⟩) := fun i d hd => by
    match i, hd with
    | 0, hd => injection hd with hd; exact .inl ⟨rfl, hd.symm⟩
    | 1, hd => injection hd with hd; exact .inr ⟨rfl, hd.symm⟩
    | i + 2, hd => cases hd
  refine ⟨by decide, fun i d hd => ?_, fun i d hd => ?_, fun i d hd => ?_, fun i d hd => ?_, fun i d hd => ?_, .inl fun i d hd => ?_⟩
  all_goals
    rcases key i d hd with ⟨rfl, rfl⟩ | ⟨rfl, rfl⟩
    all_goals simp [demoI]
theorem demo_get : (getC (newRM demoI) zeroS 1 10).2 = ([⟨0, true, 10⟩, ⟨1, true, 10⟩], 0) := by decide +kernel
theorem demo_put : (putC (newRM demoI) (getC (newRM demoI) zeroS 1 10).1 1 20).2 = ([], 0) := by decide +kernel
theorem demo_next : nextC (newRM demoI) (putC (newRM demoI) (getC (newRM demoI) zeroS 1 10).1 1 20).1 = (25, true) := by decide +kernel
theorem demo_adv : (advC (newRM demoI) (putC (newRM demoI) (getC (newRM demoI) zeroS 1 10).1 1 20).1 30).2 = ([⟨1, false, 25⟩, ⟨0, false, 25⟩], 0) := by decide +kernel
theorem demo_st : St (newRM demoI) (getC (newRM demoI) zeroS 1 10).1 10 1 ∧ St (newRM demoI) (putC (newRM demoI) (getC (newRM demoI) zeroS 1 10).1 1 20).1 20 2 := by
  have hO := demo8.new.2.2.1
  have h1 := (do_step hO (St.zero (newRM demoI)) ⟨0, 1, 10, false⟩ rfl (by decide) (by omega)).2.2
  have e1 : doC (newRM demoI) zeroS ⟨0, 1, 10, false⟩ 0 = getC (newRM demoI) zeroS 1 10 := rfl
  rw [e1] at h1
  rcases h1 with ⟨h, -, -⟩ | ⟨-, -, -, hst, hu⟩
  · exact absurd h (by decide)
  have h2 := (do_step hO hst ⟨2, 1, 10, false⟩ rfl (by decide) (by omega)).2.2
  have e2 : doC (newRM demoI) (getC (newRM demoI) zeroS 1 10).1 ⟨2, 1, 10, false⟩ (0 + 10 % 15) = putC (newRM demoI) (getC (newRM demoI) zeroS 1 10).1 1 20 := rfl
  rw [e2] at h2
  refine ⟨hst, ?_⟩
  rcases h2 with ⟨-, h, -⟩ | ⟨-, -, -, hst2, -⟩
  · exfalso
    rw [hu] at h
    exact absurd h (by decide)
  · exact hst2
set_option maxHeartbeats 8000000 in
set_option maxRecDepth 100000 in
theorem awake28_any (w : World) : Calls Try.prog 40 #[] w fun e w' => e = .returned (.bool true) ∧ Fr [] w w' := by
  have hr0 := row_lit w (idcs demoI).toArray 143 rfl
  have hf0 : Fr [] w (w.alloc (.cells (idcs demoI).toArray 143)) := (Fr.refl _ _).alloc _
  have HR0 : Hid (IdsAt (w.alloc (.cells (idcs demoI).toArray 143)) (some ⟨w.heap.size, 0, none⟩) demoI) := hide ⟨hr0, fun x hx => by
    have : x.sv = .slice none 0 0 ∧ x.sup = [] := by
      simp [demoI] at hx
      rcases hx with rfl | rfl <;> exact ⟨rfl, rfl⟩
    exact ⟨none, 0, by rw [this.1, this.2]; rfl, by rw [this.2]; exact Row.nil _ _⟩⟩
  clear hr0
  go_enter Try.func40, Try.ntmps40
  go_wp2_with fail
  refine (new28_ok (some ⟨w.heap.size, 0, none⟩) 2 demoI _ HR0.out (by decide) (fun x hx => by simp [demoI] at hx; rcases hx with rfl | rfl <;> simp) demo8.new.1).mono ?_
  rintro e w1 ⟨P, rfl, hin, hb, hg, htop, hf1, -⟩
  have hbs : w.heap.size ≤ P.b := by have := hf0.size; omega
  have hgs : w.heap.size ≤ P.g := by have := hf0.size; omega
  have hfw1 := hf0.call hf1
  have HM := hide demo8.new.2.1
  have HIN := hide hin
  have HS1 := hide demo_st.1
  have HS2 := hide demo_st.2
  clear hin HR0 hf0 hf1 hb hg
  have HD1 := hide demo_get
  have HD2 := hide demo_put
  have HD3 := hide demo_next
  have HD4 := hide demo_adv
  generalize newRM demoI = M at HM HIN HS1 HS2 HD1 HD2 HD3 HD4
  go_wp2_with fail
  refine (get28_any HIN.out HM.out ((St.zero M).sok (by omega) (by omega)) htop (fun i => by show 0 < 4096; omega) 1 10).mono ?_
  rintro e w2 ⟨v1, rfl, hin2, hown2, hf2⟩
  rw [HD1.out] at hown2 ⊢
  dsimp only at hown2 ⊢
  have HIN2 := hide hin2
  generalize (getC M zeroS 1 10).1 = s1 at HIN2 HS1 HS2 HD2 HD3 HD4
  obtain ⟨A1, p1, rfl, -, hr1, -⟩ := own_slice hown2
  have HR1 := hide hr1
  have hz2 := hf2.size
  have hfw2 : Fr [] w w2 := hfw1.step hf2 (fun i hi => .inr (by simp at hi; rcases hi with rfl | rfl <;> omega))
  have HOFF1 := hide (fun ad (e : A1 = some ad) => (own_block hown2 (g := ad.block) (by rw [e]; rfl)).1)
  clear hin2 hr1 hown2
  go_wp2_with fail
  refine (put28_any HIN2.out HM.out (HS1.out.sok (by omega) (by omega)) (by omega) 1 20).mono ?_
  rintro e w3 ⟨v2, rfl, hin3, hown3, hf3⟩
  rw [HD2.out] at hown3 ⊢
  dsimp only at hown3 ⊢
  have HIN3 := hide hin3
  generalize (putC M s1 1 20).1 = s2 at HIN3 HS2 HD3 HD4
  obtain ⟨A2, p2, rfl, -, -, -⟩ := own_slice hown3
  have hz3 := hf3.size
  have hlow1 := HIN.out.low
  have hfw3 : Fr [] w w3 := hfw2.step hf3 (fun i hi => .inr (by simp at hi; rcases hi with rfl | rfl <;> omega))
  have HR3 := hide (HR1.out.fr hf3 (fun ad e hm => by have := HOFF1.out ad e; simp at hm; omega))
  clear hin3 hown3
  go_wp2_with fail
  refine (next28_any HIN3.out HM.out (HS2.out.sok (by omega) (by omega))).mono ?_
  rintro e w4 ⟨rfl, hf4⟩
  rw [HD3.out]
  dsimp only
  have HIN4 := hide (HIN3.out.fr0 hf4)
  have hz4 := hf4.size
  go_wp2_with fail
  refine (advance28_any HIN4.out HM.out (HS2.out.sok (by omega) (by omega)) (by omega) 30).mono ?_
  rintro e w5 ⟨v3, rfl, hin5, hown5, hf5⟩
  rw [HD4.out] at hown5 ⊢
  dsimp only at hown5 ⊢
  obtain ⟨A3, p3, rfl, -, hr3, -⟩ := own_slice hown5
  have HR5 := hide ((HR3.out.fr0 hf4).fr hf5 (fun ad e hm => by have := HOFF1.out ad e; simp at hm; omega))
  have HQ5 := hide hr3
  have hfw5 : Fr [] w w5 := (hfw3.call hf4).step hf5 (fun i hi => .inr (by simp at hi; rcases hi with rfl | rfl <;> omega))
  clear hin5 hr3 hown5
  go_wp2_with fail
  refine (equalPops_any A1 (some ⟨w5.heap.size, 0, none⟩) p1 2 [⟨0, true, 10⟩, ⟨1, true, 10⟩] [⟨0, true, 10⟩, ⟨1, true, 10⟩] _ (HR5.out.fr0 ((Fr.refl [] _).alloc _)) (row_lit w5 _ _ rfl) (by simp)).mono ?_
  rintro e w6 ⟨rfl, hf6⟩
  rw [decide_eq_true rfl]
  have hf56 : Fr [] w5 w6 := ((Fr.refl [] _).alloc _).call hf6
  go_wp2_with fail
  refine (equalPops_any A3 (some ⟨w6.heap.size, 0, none⟩) p3 2 [⟨1, false, 25⟩, ⟨0, false, 25⟩] [⟨1, false, 25⟩, ⟨0, false, 25⟩] _ ((HQ5.out.fr0 hf56).fr0 ((Fr.refl [] _).alloc _)) (row_lit w6 _ _ rfl) (by simp)).mono ?_
  rintro e w7 ⟨rfl, hf7⟩
  rw [decide_eq_true rfl]
  have hf67 : Fr [] w6 w7 := ((Fr.refl [] _).alloc _).call hf7
  go_wp2
  go_ret
  exact ⟨rfl, (hfw5.call hf56).call hf67⟩
end Go.Proofs.Ytdocdgghphhdpaa

/- Plain: a call of the laws of chapter 28 gives few operations. -/
namespace Go.Proofs.Ytdocdgghphhdpaa
open Go.RowKit

theorem onStep_len (r : Nat → Bool) (t : Nat) (p : RS × List POp) (x : Nat) : (onStep r t p x).2.length ≤ p.2.length + 1 := by
  unfold onStep
  split
  · rw [List.length_append, List.length_singleton]; exact Nat.le_refl _
  · exact Nat.le_succ _
section
variable {M : RM}
theorem expM_len (hM : MOk M) (t : Nat) (s : RS) (ops : List POp) : (expM M t s ops).2.length ≤ ops.length + 64 := by
  have h1 := expK_len (M := M) t (M.n + 1) s ops
  have h2 := nAct_le M s
  have h3 := hM.n
  unfold expM
  omega
theorem onAll_len (r : Nat → Bool) (now : Nat) (l : List Nat) : ∀ (p : RS × List POp), (l.foldl (onStep r now) p).2.length ≤ p.2.length + l.length := by
  induction l with
  | nil => intro p; exact Nat.le_refl _
  | cons a l ih =>
    intro p
    rw [List.foldl_cons, List.length_cons]
    have h1 := ih (onStep r now p a)
    have h2 := onStep_len r now p a
    omega
theorem putC_len (hM : MOk M) (s : RS) (d : Int) (t : Nat) : (putC M s d t).2.1.length ≤ 4096 := by
  unfold putC
  split
  · split
    · exact Nat.zero_le _
    · have h1 := expM_len hM t { s with clk := t } []
      have h2 := expM_len hM t (idleS M (useS (expM M t { s with clk := t } []).1 d.toNat ((expM M t { s with clk := t } []).1.use d.toNat - 1)) d.toNat t) (expM M t { s with clk := t } []).2
      have h3 : (putM M s d.toNat t).2.length ≤ _ := h2
      simp at h1
      show (putM M s d.toNat t).2.length ≤ 4096
      omega
  · exact Nat.zero_le _
theorem advC_len (hM : MOk M) (s : RS) (t : Nat) : (advC M s t).2.1.length ≤ 4096 := by
  unfold advC
  split
  · have h1 := expM_len hM t { s with clk := t } []
    have h3 : (advM M s t).2.length ≤ _ := h1
    simp at h3
    show (advM M s t).2.length ≤ 4096
    omega
  · exact Nat.zero_le _
theorem getC_len (hM : MOk M) (s : RS) (d : Int) (t : Nat) : (getC M s d t).2.1.length ≤ 4096 := by
  unfold getC
  split
  · have h1 := expM_len hM t { s with clk := t } []
    have h2 := onAll_len (reqM M d.toNat) t M.ord (useS (expM M t { s with clk := t } []).1 d.toNat ((expM M t { s with clk := t } []).1.use d.toNat + 1), (expM M t { s with clk := t } []).2)
    have h3 : (getM M s d.toNat t).2.length ≤ _ := h2
    have h4 := hM.ol
    have h5 := hM.n
    simp at h1 h3
    show (getM M s d.toNat t).2.length ≤ 4096
    omega
  · exact Nat.zero_le _
/-- Few operations. -/
theorem doC_len (hM : MOk M) (s : RS) (c : CL) (now : Nat) : (doC M s c now).2.1.length ≤ 4096 := by
  unfold doC
  split
  · exact putC_len hM _ _ _
  · split
    · exact advC_len hM _ _
    · exact getC_len hM _ _ _
/-- At most twice as many operations as devices. -/
theorem doC_few (hM : MOk M) (s : RS) (c : CL) (now : Nat) : (doC M s c now).2.1.length ≤ 2 * M.n := by
  have ex : ∀ (t : Nat) (s : RS) (ops : List POp), (expM M t s ops).2.length ≤ ops.length + M.n := fun t s ops => by
    have h1 := expK_len (M := M) t (M.n + 1) s ops
    have h2 := nAct_le M s
    unfold expM
    omega
  unfold doC
  split
  · unfold putC
    split
    · split
      · exact Nat.zero_le _
      · generalize (atM c M.n now).1 = d
        generalize (atM c M.n now).2 = t
        have h1 := ex t { s with clk := t } []
        have h2 := ex t (idleS M (useS (expM M t { s with clk := t } []).1 d.toNat ((expM M t { s with clk := t } []).1.use d.toNat - 1)) d.toNat t) (expM M t { s with clk := t } []).2
        have h3 : (putM M s d.toNat t).2.length ≤ _ := h2
        simp at h1
        show (putM M s d.toNat t).2.length ≤ _
        omega
    · exact Nat.zero_le _
  · split
    · unfold advC
      split
      · generalize (atM c M.n now).2 = t
        have h1 := ex t { s with clk := t } []
        have h3 : (advM M s t).2.length ≤ _ := h1
        simp at h3
        show (advM M s t).2.length ≤ _
        omega
      · exact Nat.zero_le _
    · unfold getC
      split
      · generalize (atM c M.n now).1 = d
        generalize (atM c M.n now).2 = t
        have h1 := ex t { s with clk := t } []
        have h2 := onAll_len (reqM M d.toNat) t M.ord (useS (expM M t { s with clk := t } []).1 d.toNat ((expM M t { s with clk := t } []).1.use d.toNat + 1), (expM M t { s with clk := t } []).2)
        have h3 : (getM M s d.toNat t).2.length ≤ _ := h2
        have h4 := hM.ol
        simp at h1 h3
        show (getM M s d.toNat t).2.length ≤ _
        omega
      · exact Nat.zero_le _
end
end Go.Proofs.Ytdocdgghphhdpaa

/- What the laws of chapter 28 over the device tree share. -/
namespace Go.Proofs.Ytdocdgghphhdpaa
open Go.RowKit

def clr (c : CL) : CL := { c with raw := false }
theorem clr_blk {w : World} (c : CL) : Blk (w.alloc (.cells #[.int .i64 c.kind, .int .i64 c.dev, .int .u64 (c.wait : Int), .bool false] 93)) w.heap.size 93 #[.int .i64 c.kind, .int .i64 c.dev, .int .u64 (c.wait : Int), .bool false] := Blk.new w _ _
theorem clr_fr {w : World} (c : CL) : Fr [] w (w.alloc (.cells #[.int .i64 c.kind, .int .i64 c.dev, .int .u64 (c.wait : Int), .bool false] 93)) := (Fr.refl _ _).alloc _
def RpRel (w5 : World) (T : TP) (ds : List DV) (C : TC) (M : RM) (P : ML) (n m : Nat) (v14 v15 : Value) (wr : World) : Prop :=
  ∃ (j now : Nat) (s : RS) (st : TSt), j ≤ n ∧ v14 = uv now ∧ v15 = .int .i64 (j : Int) ∧ MgIn wr P M s ∧ St M s now j ∧ now ≤ 15 * j ∧ TrAt wr T ds C st ∧ AppI C s.act now st ∧ Fr (P.b :: P.g :: T.wr) w5 wr ∧ m = n - j
def RpK (w6 : World) (n : Nat) (m : Nat) (i : Value) (wr : World) : Prop := ∃ k : Nat, k ≤ n ∧ i = .int .i64 (k : Int) ∧ Fr [] w6 wr ∧ m = n - k
theorem AppI.later {C : TC} {on : Nat → Bool} {now now' : Nat} {s : TSt} (h : AppI C on now s) (hn : now ≤ now') : AppI C on now' s := ⟨h.inv, h.st, Nat.le_trans h.clk hn⟩
theorem app_zero (C : TC) : AppI C zeroS.act 0 tsz := ⟨tsz_inv C, fun p _ => rfl, Nat.zero_le _⟩
end Go.Proofs.Ytdocdgghphhdpaa

