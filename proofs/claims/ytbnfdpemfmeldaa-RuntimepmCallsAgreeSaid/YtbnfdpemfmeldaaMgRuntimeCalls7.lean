/- Plain: the calls that the laws of chapter 28 make. No program is in sight here. -/
import Derived.Test.YtbnfdpemfmeldaaRpmP3Mg
import Derived.Test.YtbnfdpemfmeldaaRpmW7Mg
import Derived.Test.YtbnfdpemfmeldaaRpmSMg
import Derived.Test.YtbnfdpemfmeldaaRpmNMg
namespace Go.Proofs.Ytbnfdpemfmeldaa

/-- A manager between calls: its clock, a bound of its uses. -/
structure St (M : RM) (s : RS) (now k : Nat) : Prop where
  good : Good M s
  sin : SinLe s s.clk
  clk : s.clk = now
  use : ∀ i, s.use i ≤ k
section
variable {M : RM} {s : RS} {now k : Nat}
theorem St.sok (h : St M s now k) (hn : now ≤ 1152921504606846976) (hk : k ≤ 4096) : SOk M s := ⟨fun i => by have := h.sin i; have := h.clk; omega, fun i => Nat.le_trans (h.use i) hk, by have := h.clk; omega⟩
theorem St.zero (M : RM) : St M zeroS 0 0 := ⟨⟨⟨fun _ _ h => (by cases h), fun _ h => absurd h (Nat.lt_irrefl 0), fun _ h => (by cases h)⟩, fun i hi => by have := idl_act hi; cases this⟩, fun _ => Nat.le_refl _, rfl, fun _ => Nat.le_refl _⟩
theorem Did.st {t k' last : Nat} {R : RS × List POp} (h : Did M t s last R) (hs : SinLe R.1 t) (hu : ∀ i, R.1.use i ≤ k') : St M R.1 t k' := ⟨h.good, by rw [h.clk]; exact hs, h.clk, hu⟩
theorem setF_le {f : Nat → Nat} {B u d : Nat} (h : ∀ i, f i ≤ B) (hu : u ≤ B) (i : Nat) : setF f d u i ≤ B := by
  unfold setF
  split
  · exact hu
  · exact h i
/-- A call with a device and a time that fit. -/
theorem do_step (hO : Ordd M) (h : St M s now k) (c : CL) (hr : c.raw = false) (hn : 0 < M.n) (hnow : now + 15 ≤ 1152921504606846976) :
    atM c M.n now = ((umod c.dev M.n : Int), now + c.wait % 15) ∧ umod c.dev M.n < M.n ∧
    ((umod c.kind 4 = 2 ∧ s.use (umod c.dev M.n) = 0 ∧ doC M s c now = (s, [], 9)) ∨
     (¬ (umod c.kind 4 = 2 ∧ s.use (umod c.dev M.n) = 0) ∧ (doC M s c now).2.2 = 0 ∧ (∀ last, last ≤ now → Did M (now + c.wait % 15) s last ((doC M s c now).1, (doC M s c now).2.1)) ∧ St M (doC M s c now).1 (now + c.wait % 15) (k + 1) ∧
      (doC M s c now).1.use = (if umod c.kind 4 = 2 then setF s.use (umod c.dev M.n) (s.use (umod c.dev M.n) - 1) else if umod c.kind 4 = 3 then s.use else setF s.use (umod c.dev M.n) (s.use (umod c.dev M.n) + 1)))) := by
  have hat : atM c M.n now = ((umod c.dev M.n : Int), now + c.wait % 15) := by
    unfold atM
    rw [if_neg (by rw [hr]; simp; omega)]
  have hd := umod_lt c.dev hn
  refine ⟨hat, hd, ?_⟩
  have hlt : c.wait % 15 < 15 := Nat.mod_lt _ (by omega)
  unfold doC
  rw [hat]
  simp only
  generalize umod c.dev M.n = d at hd ⊢
  generalize c.wait % 15 = x at hlt ⊢
  generalize umod c.kind 4 = q
  have hck := h.clk
  have hok : s.clk ≤ now + x ∧ now + x ≤ 1152921504606846976 := ⟨by omega, by omega⟩
  have hdi : (0 : Int) ≤ (d : Int) ∧ (d : Int) < (M.n : Int) := ⟨by omega, by omega⟩
  by_cases h2 : q = 2
  · rw [if_pos h2]
    unfold putC
    rw [if_pos ⟨hdi, hok⟩, Int.toNat_natCast]
    by_cases h0 : s.use d = 0
    · rw [if_pos h0]
      exact .inl ⟨h2, h0, rfl⟩
    · rw [if_neg h0]
      have hp : ∀ last, last ≤ now → Did M (now + x) s last (putM M s d (now + x)) := fun last hl => put_did h.good (by omega) hok.1 (by omega)
      have hu := (putM_use M s d (now + x)).1
      refine .inr ⟨fun h => h0 h.2, rfl, hp, (hp 0 (Nat.zero_le _)).st (put_sin d h.sin hok.1) (fun i => ?_), ?_⟩
      · rw [hu]
        exact setF_le (fun i => Nat.le_succ_of_le (h.use i)) (by have := h.use d; omega) i
      · rw [hu, if_pos h2]
  · rw [if_neg h2]
    by_cases h3 : q = 3
    · rw [if_pos h3]
      unfold advC
      rw [if_pos hok]
      have hp : ∀ last, last ≤ now → Did M (now + x) s last (advM M s (now + x)) := fun last hl => adv_did h.good (by omega)
      have hu := (advM_use M s (now + x)).1
      refine .inr ⟨fun h => h2 h.1, rfl, hp, (hp 0 (Nat.zero_le _)).st (adv_sin h.sin hok.1) (fun i => ?_), ?_⟩
      · rw [hu]
        exact Nat.le_succ_of_le (h.use i)
      · rw [hu, if_neg h2, if_pos h3]
    · rw [if_neg h3]
      unfold getC
      rw [if_pos ⟨hdi, hok⟩, Int.toNat_natCast]
      have hp : ∀ last, last ≤ now → Did M (now + x) s last (getM M s d (now + x)) := fun last hl => (get_did hO h.good (by omega) hok.1 hd).1
      have hu := (get_did hO h.good (last := 0) (Nat.zero_le _) hok.1 hd).2
      refine .inr ⟨fun h => h2 h.1, rfl, hp, (hp 0 (Nat.zero_le _)).st (get_sin d h.sin hok.1) (fun i => ?_), ?_⟩
      · rw [hu]
        exact setF_le (fun i => Nat.le_succ_of_le (h.use i)) (by have := h.use d; omega) i
      · rw [hu, if_neg h2, if_neg h3]
/-- A call where there are no devices. -/
theorem do_none (h : St M s now k) (c : CL) (hn : M.n = 0) (hnow : now ≤ 1152921504606846976) : ∃ now', now' ≤ 1152921504606846976 ∧ (doC M s c now).2.1 = [] ∧ St M (doC M s c now).1 now' k ∧ ((doC M s c now).2.2 = 0 → now' = (atM c M.n now).2) ∧ ((doC M s c now).2.2 ≠ 0 → now' = now) := by
  have hf : ∀ s, fstM M s = none := fun s => by
    unfold fstM
    rw [hn]
    rfl
  unfold doC
  have hp : ∀ d t, putC M s d t = (s, [], 1) := fun d t => by unfold putC; rw [if_neg (by omega)]
  have hg : ∀ d t, getC M s d t = (s, [], 1) := fun d t => by unfold getC; rw [if_neg (by omega)]
  rw [hp, hg]
  split
  · exact ⟨now, hnow, rfl, h, (fun e => by cases e), fun _ => rfl⟩
  · split
    · unfold advC
      split
      · rename_i hok
        refine ⟨(atM c M.n now).2, hok.2, ?_, ?_, fun _ => rfl, fun e => absurd rfl e⟩
        · rw [next_none (hf s)]
        · rw [next_none (hf s)]
          refine ⟨⟨h.good.up.tick _, fun i hi => ?_⟩, h.sin.mono hok.1, rfl, h.use⟩
          have := h.good.up.dom i (idl_act hi)
          omega
      · exact ⟨now, hnow, rfl, h, (fun e => by cases e), fun _ => rfl⟩
    · exact ⟨now, hnow, rfl, h, (fun e => by cases e), fun _ => rfl⟩
end
end Go.Proofs.Ytbnfdpemfmeldaa

/- Walks: law28's awake. -/
namespace Go.Proofs.Ytbnfdpemfmeldaa
open Go.RowKit

def NewOk (w : World) (l : List ID) (e : Ending) (w' : World) : Prop :=
  ∃ P : ML, e = .returned (.tuple #[.pointer (some ⟨P.b, 0, none⟩), .int .i64 0]) ∧ MgIn w' P (newRM l) zeroS ∧ w.heap.size ≤ P.b ∧ w.heap.size ≤ P.g ∧ P.top ≤ w'.heap.size ∧ Fr [] w w' ∧ P.bot = w.heap.size
/-- New where it accepts the devices. -/
theorem new28_ok (A : Option Addr) (cp : Nat) (l : List ID) (w : World) (hr : IdsAt w A l) (hl : l.length ≤ 20) (hs : ∀ x ∈ l, x.sup.length ≤ 21) (h0 : newE l = 0) :
    Calls Try.prog 16 #[.slice A l.length cp] w (NewOk w l) := by
  refine (new28_any A cp l w hr hl hs).mono ?_
  rintro e w' (⟨hne, -⟩ | ⟨-, P, he, hin, hbot, htop, hf⟩)
  · exact absurd h0 hne
  · exact ⟨P, he, hin, by rw [← hbot]; exact hin.bot.1, by rw [← hbot]; exact hin.bot.2, htop, hf, hbot⟩
def demoI : List ID := [⟨-1, .slice none 0 0, 0, []⟩, ⟨0, .slice none 0 0, 5, []⟩]
theorem demo8 : Dev8 demoI := by
  have key : ∀ (i : Nat) (d : ID), demoI[i]? = some d → (i = 0 ∧ d = ⟨-1, .slice none 0 0, 0, []⟩) ∨ (i = 1 ∧ d = ⟨0, .slice none 0 0, 5, []⟩) := fun i d hd => by
    match i, hd with
    | 0, hd => injection hd with hd; exact .inl ⟨rfl, hd.symm⟩
    | 1, hd => injection hd with hd; exact .inr ⟨rfl, hd.symm⟩
    | i + 2, hd => cases hd
  refine ⟨by decide, fun i d hd => ?_, fun i d hd => ?_, fun i d hd => ?_, fun i d hd => ?_, fun i d hd => ?_, .inl fun i d hd => ?_⟩
  all_goals
    rcases key i d hd with ⟨rfl, rfl⟩ | ⟨rfl, rfl⟩
    all_goals simp [demoI]
theorem demo_get : (getC (newRM demoI) zeroS 1 10).2 = ([⟨0, true, 10⟩, ⟨1, true, 10⟩], 0) := by decide +kernel
theorem demo_put : (putC (newRM demoI) (getC (newRM demoI) zeroS 1 10).1 1 20).2 = ([], 0) := by decide +kernel
theorem demo_next : nextC (newRM demoI) (putC (newRM demoI) (getC (newRM demoI) zeroS 1 10).1 1 20).1 = (25, true) := by decide +kernel
theorem demo_adv : (advC (newRM demoI) (putC (newRM demoI) (getC (newRM demoI) zeroS 1 10).1 1 20).1 30).2 = ([⟨1, false, 25⟩, ⟨0, false, 25⟩], 0) := by decide +kernel
theorem demo_st : St (newRM demoI) (getC (newRM demoI) zeroS 1 10).1 10 1 ∧ St (newRM demoI) (putC (newRM demoI) (getC (newRM demoI) zeroS 1 10).1 1 20).1 20 2 := by
  have hO := demo8.new.2.2.1
  have h1 := (do_step hO (St.zero (newRM demoI)) ⟨0, 1, 10, false⟩ rfl (by decide) (by omega)).2.2
  have e1 : doC (newRM demoI) zeroS ⟨0, 1, 10, false⟩ 0 = getC (newRM demoI) zeroS 1 10 := rfl
  rw [e1] at h1
  rcases h1 with ⟨h, -, -⟩ | ⟨-, -, -, hst, hu⟩
  · exact absurd h (by decide)
  have h2 := (do_step hO hst ⟨2, 1, 10, false⟩ rfl (by decide) (by omega)).2.2
  have e2 : doC (newRM demoI) (getC (newRM demoI) zeroS 1 10).1 ⟨2, 1, 10, false⟩ (0 + 10 % 15) = putC (newRM demoI) (getC (newRM demoI) zeroS 1 10).1 1 20 := rfl
  rw [e2] at h2
  refine ⟨hst, ?_⟩
  rcases h2 with ⟨-, h, -⟩ | ⟨-, -, -, hst2, -⟩
  · exfalso
    rw [hu] at h
    exact absurd h (by decide)
  · exact hst2
set_option maxHeartbeats 8000000 in
set_option maxRecDepth 100000 in
theorem awake28_any (w : World) : Calls Try.prog 13 #[] w fun e w' => e = .returned (.bool true) ∧ Fr [] w w' := by
  have hr0 := row_lit w (idcs demoI).toArray 30 rfl
  have hf0 : Fr [] w (w.alloc (.cells (idcs demoI).toArray 30)) := (Fr.refl _ _).alloc _
  have HR0 : Hid (IdsAt (w.alloc (.cells (idcs demoI).toArray 30)) (some ⟨w.heap.size, 0, none⟩) demoI) := hide ⟨hr0, fun x hx => by
    have : x.sv = .slice none 0 0 ∧ x.sup = [] := by
      simp [demoI] at hx
      rcases hx with rfl | rfl <;> exact ⟨rfl, rfl⟩
    exact ⟨none, 0, by rw [this.1, this.2]; rfl, by rw [this.2]; exact Row.nil _ _⟩⟩
  clear hr0
  go_enter Try.func13, Try.ntmps13
  go_wp2_with fail
  refine (new28_ok (some ⟨w.heap.size, 0, none⟩) 2 demoI _ HR0.out (by decide) (fun x hx => by simp [demoI] at hx; rcases hx with rfl | rfl <;> simp) demo8.new.1).mono ?_
  rintro e w1 ⟨P, rfl, hin, hb, hg, htop, hf1, -⟩
  have hbs : w.heap.size ≤ P.b := by have := hf0.size; omega
  have hgs : w.heap.size ≤ P.g := by have := hf0.size; omega
  have hfw1 := hf0.call hf1
  have HM := hide demo8.new.2.1
  have HIN := hide hin
  have HS1 := hide demo_st.1
  have HS2 := hide demo_st.2
  clear hin HR0 hf0 hf1 hb hg
  have HD1 := hide demo_get
  have HD2 := hide demo_put
  have HD3 := hide demo_next
  have HD4 := hide demo_adv
  generalize newRM demoI = M at HM HIN HS1 HS2 HD1 HD2 HD3 HD4
  go_wp2_with fail
  refine (get28_any HIN.out HM.out ((St.zero M).sok (by omega) (by omega)) htop (fun i => by show 0 < 4096; omega) 1 10).mono ?_
  rintro e w2 ⟨v1, rfl, hin2, hown2, hf2⟩
  rw [HD1.out] at hown2 ⊢
  dsimp only at hown2 ⊢
  have HIN2 := hide hin2
  generalize (getC M zeroS 1 10).1 = s1 at HIN2 HS1 HS2 HD2 HD3 HD4
  obtain ⟨A1, p1, rfl, -, hr1, -⟩ := own_slice hown2
  have HR1 := hide hr1
  have hz2 := hf2.size
  have hfw2 : Fr [] w w2 := hfw1.step hf2 (fun i hi => .inr (by simp at hi; rcases hi with rfl | rfl <;> omega))
  have HOFF1 := hide (fun ad (e : A1 = some ad) => (own_block hown2 (g := ad.block) (by rw [e]; rfl)).1)
  clear hin2 hr1 hown2
  go_wp2_with fail
  refine (put28_any HIN2.out HM.out (HS1.out.sok (by omega) (by omega)) (by omega) 1 20).mono ?_
  rintro e w3 ⟨v2, rfl, hin3, hown3, hf3⟩
  rw [HD2.out] at hown3 ⊢
  dsimp only at hown3 ⊢
  have HIN3 := hide hin3
  generalize (putC M s1 1 20).1 = s2 at HIN3 HS2 HD3 HD4
  obtain ⟨A2, p2, rfl, -, -, -⟩ := own_slice hown3
  have hz3 := hf3.size
  have hlow1 := HIN.out.low
  have hfw3 : Fr [] w w3 := hfw2.step hf3 (fun i hi => .inr (by simp at hi; rcases hi with rfl | rfl <;> omega))
  have HR3 := hide (HR1.out.fr hf3 (fun ad e hm => by have := HOFF1.out ad e; simp at hm; omega))
  clear hin3 hown3
  go_wp2_with fail
  refine (next28_any HIN3.out HM.out (HS2.out.sok (by omega) (by omega))).mono ?_
  rintro e w4 ⟨rfl, hf4⟩
  rw [HD3.out]
  dsimp only
  have HIN4 := hide (HIN3.out.fr0 hf4)
  have hz4 := hf4.size
  go_wp2_with fail
  refine (advance28_any HIN4.out HM.out (HS2.out.sok (by omega) (by omega)) (by omega) 30).mono ?_
  rintro e w5 ⟨v3, rfl, hin5, hown5, hf5⟩
  rw [HD4.out] at hown5 ⊢
  dsimp only at hown5 ⊢
  obtain ⟨A3, p3, rfl, -, hr3, -⟩ := own_slice hown5
  have HR5 := hide ((HR3.out.fr0 hf4).fr hf5 (fun ad e hm => by have := HOFF1.out ad e; simp at hm; omega))
  have HQ5 := hide hr3
  have hfw5 : Fr [] w w5 := (hfw3.call hf4).step hf5 (fun i hi => .inr (by simp at hi; rcases hi with rfl | rfl <;> omega))
  clear hin5 hr3 hown5
  go_wp2_with fail
  refine (equalPops_any A1 (some ⟨w5.heap.size, 0, none⟩) p1 2 [⟨0, true, 10⟩, ⟨1, true, 10⟩] [⟨0, true, 10⟩, ⟨1, true, 10⟩] _ (HR5.out.fr0 ((Fr.refl [] _).alloc _)) (row_lit w5 _ _ rfl) (by simp)).mono ?_
  rintro e w6 ⟨rfl, hf6⟩
  rw [decide_eq_true rfl]
  have hf56 : Fr [] w5 w6 := ((Fr.refl [] _).alloc _).call hf6
  go_wp2_with fail
  refine (equalPops_any A3 (some ⟨w6.heap.size, 0, none⟩) p3 2 [⟨1, false, 25⟩, ⟨0, false, 25⟩] [⟨1, false, 25⟩, ⟨0, false, 25⟩] _ ((HQ5.out.fr0 hf56).fr0 ((Fr.refl [] _).alloc _)) (row_lit w6 _ _ rfl) (by simp)).mono ?_
  rintro e w7 ⟨rfl, hf7⟩
  rw [decide_eq_true rfl]
  have hf67 : Fr [] w6 w7 := ((Fr.refl [] _).alloc _).call hf7
  go_wp2
  go_ret
  exact ⟨rfl, (hfw5.call hf56).call hf67⟩
end Go.Proofs.Ytbnfdpemfmeldaa

