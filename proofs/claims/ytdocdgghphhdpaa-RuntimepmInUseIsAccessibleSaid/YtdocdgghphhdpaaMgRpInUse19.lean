/- Plain: the calls that the laws of chapter 28 make. No program is in sight here. -/
import Derived.Test.YtdocdgghphhdpaaRpmP3Mg
import Derived.Test.YtdocdgghphhdpaaRpmW7Mg
import Derived.Test.YtdocdgghphhdpaaRpmSMg
import Derived.Test.YtdocdgghphhdpaaDevW12Mg
import Derived.Test.YtdocdgghphhdpaaMgRpInUse0
import Derived.Test.YtdocdgghphhdpaaProg
import Derived.Lib.Hide
import Derived.Deep.LoopGhost
import Derived.Deep.QuietTactic
import Derived.BigQuiet
namespace Go.Proofs.Ytdocdgghphhdpaa

/-- A manager between calls: its clock, a bound of its uses. -/
structure St (M : RM) (s : RS) (now k : Nat) : Prop where
  good : Good M s
  sin : SinLe s s.clk
  clk : s.clk = now
  use : ∀ i, s.use i ≤ k
section
variable {M : RM} {s : RS} {now k : Nat}
theorem St.sok (h : St M s now k) (hn : now ≤ 1152921504606846976) (hk : k ≤ 4096) : SOk M s := ⟨fun i => by have := h.sin i; have := h.clk; omega, fun i => Nat.le_trans (h.use i) hk, by have := h.clk; omega⟩
theorem St.zero (M : RM) : St M zeroS 0 0 := ⟨⟨⟨fun _ _ h => (by cases h), fun _ h => absurd h (Nat.lt_irrefl 0), fun _ h => (by cases h)⟩, fun i hi => by have := idl_act hi; cases this⟩, fun _ => Nat.le_refl _, rfl, fun _ => Nat.le_refl _⟩
theorem Did.st {t k' last : Nat} {R : RS × List POp} (h : Did M t s last R) (hs : SinLe R.1 t) (hu : ∀ i, R.1.use i ≤ k') : St M R.1 t k' := ⟨h.good, by rw [h.clk]; exact hs, h.clk, hu⟩
theorem setF_le {f : Nat → Nat} {B u d : Nat} (h : ∀ i, f i ≤ B) (hu : u ≤ B) (i : Nat) : setF f d u i ≤ B := by
  unfold setF
  split
  · exact hu
  · exact h i
/-- A call with a device and a time that fit. -/
theorem do_step (hO : Ordd M) (h : St M s now k) (c : CL) (hr : c.raw = false) (hn : 0 < M.n) (hnow : now + 15 ≤ 1152921504606846976) :
    atM c M.n now = ((umod c.dev M.n : Int), now + c.wait % 15) ∧ umod c.dev M.n < M.n ∧
    ((umod c.kind 4 = 2 ∧ s.use (umod c.dev M.n) = 0 ∧ doC M s c now = (s, [], 9)) ∨
     (¬ (umod c.kind 4 = 2 ∧ s.use (umod c.dev M.n) = 0) ∧ (doC M s c now).2.2 = 0 ∧ (∀ last, last ≤ now → Did M (now + c.wait % 15) s last ((doC M s c now).1, (doC M s c now).2.1)) ∧ St M (doC M s c now).1 (now + c.wait % 15) (k + 1) ∧
      (doC M s c now).1.use = (if umod c.kind 4 = 2 then setF s.use (umod c.dev M.n) (s.use (umod c.dev M.n) - 1) else if umod c.kind 4 = 3 then s.use else setF s.use (umod c.dev M.n) (s.use (umod c.dev M.n) + 1)))) := by
  have hat : atM c M.n now = ((umod c.dev M.n : Int), now + c.wait % 15) := by
    unfold atM
    rw [if_neg (by rw [hr]; simp; omega)]
  have hd := umod_lt c.dev hn
  refine ⟨hat, hd, ?_⟩
  have hlt : c.wait % 15 < 15 := Nat.mod_lt _ (by omega)
  unfold doC
  rw [hat]
  simp only
  generalize umod c.dev M.n = d at hd ⊢
  generalize c.wait % 15 = x at hlt ⊢
  generalize umod c.kind 4 = q
  have hck := h.clk
  have hok : s.clk ≤ now + x ∧ now + x ≤ 1152921504606846976 := ⟨by omega, by omega⟩
  have hdi : (0 : Int) ≤ (d : Int) ∧ (d : Int) < (M.n : Int) := ⟨by omega, by omega⟩
  by_cases h2 : q = 2
  · rw [if_pos h2]
    unfold putC
    rw [if_pos ⟨hdi, hok⟩, Int.toNat_natCast]
    by_cases h0 : s.use d = 0
    · rw [if_pos h0]
      exact .inl ⟨h2, h0, rfl⟩
    · rw [if_neg h0]
      have hp : ∀ last, last ≤ now → Did M (now + x) s last (putM M s d (now + x)) := fun last hl => put_did h.good (by omega) hok.1 (by omega)
      have hu := (putM_use M s d (now + x)).1
      refine .inr ⟨fun h => h0 h.2, rfl, hp, (hp 0 (Nat.zero_le _)).st (put_sin d h.sin hok.1) (fun i => ?_), ?_⟩
      · rw [hu]
        exact setF_le (fun i => Nat.le_succ_of_le (h.use i)) (by have := h.use d; omega) i
      · rw [hu, if_pos h2]
  · rw [if_neg h2]
    by_cases h3 : q = 3
    · rw [if_pos h3]
      unfold advC
      rw [if_pos hok]
      have hp : ∀ last, last ≤ now → Did M (now + x) s last (advM M s (now + x)) := fun last hl => adv_did h.good (by omega)
      have hu := (advM_use M s (now + x)).1
      refine .inr ⟨fun h => h2 h.1, rfl, hp, (hp 0 (Nat.zero_le _)).st (adv_sin h.sin hok.1) (fun i => ?_), ?_⟩
      · rw [hu]
        exact Nat.le_succ_of_le (h.use i)
      · rw [hu, if_neg h2, if_pos h3]
    · rw [if_neg h3]
      unfold getC
      rw [if_pos ⟨hdi, hok⟩, Int.toNat_natCast]
      have hp : ∀ last, last ≤ now → Did M (now + x) s last (getM M s d (now + x)) := fun last hl => (get_did hO h.good (by omega) hok.1 hd).1
      have hu := (get_did hO h.good (last := 0) (Nat.zero_le _) hok.1 hd).2
      refine .inr ⟨fun h => h2 h.1, rfl, hp, (hp 0 (Nat.zero_le _)).st (get_sin d h.sin hok.1) (fun i => ?_), ?_⟩
      · rw [hu]
        exact setF_le (fun i => Nat.le_succ_of_le (h.use i)) (by have := h.use d; omega) i
      · rw [hu, if_neg h2, if_neg h3]
/-- A call where there are no devices. -/
theorem do_none (h : St M s now k) (c : CL) (hn : M.n = 0) (hnow : now ≤ 1152921504606846976) : ∃ now', now' ≤ 1152921504606846976 ∧ (doC M s c now).2.1 = [] ∧ St M (doC M s c now).1 now' k ∧ ((doC M s c now).2.2 = 0 → now' = (atM c M.n now).2) ∧ ((doC M s c now).2.2 ≠ 0 → now' = now) := by
  have hf : ∀ s, fstM M s = none := fun s => by
    unfold fstM
    rw [hn]
    rfl
  unfold doC
  have hp : ∀ d t, putC M s d t = (s, [], 1) := fun d t => by unfold putC; rw [if_neg (by omega)]
  have hg : ∀ d t, getC M s d t = (s, [], 1) := fun d t => by unfold getC; rw [if_neg (by omega)]
  rw [hp, hg]
  split
  · exact ⟨now, hnow, rfl, h, (fun e => by cases e), fun _ => rfl⟩
  · split
    · unfold advC
      split
      · rename_i hok
        refine ⟨(atM c M.n now).2, hok.2, ?_, ?_, fun _ => rfl, fun e => absurd rfl e⟩
        · rw [next_none (hf s)]
        · rw [next_none (hf s)]
          refine ⟨⟨h.good.up.tick _, fun i hi => ?_⟩, h.sin.mono hok.1, rfl, h.use⟩
          have := h.good.up.dom i (idl_act hi)
          omega
      · exact ⟨now, hnow, rfl, h, (fun e => by cases e), fun _ => rfl⟩
    · exact ⟨now, hnow, rfl, h, (fun e => by cases e), fun _ => rfl⟩
end
end Go.Proofs.Ytdocdgghphhdpaa

/- Plain: a call of the laws, with devices or without. No program is in sight here. -/
namespace Go.Proofs.Ytdocdgghphhdpaa
section
variable {M : RM} {s : RS} {now k : Nat}
structure DoAny (M : RM) (s : RS) (now k t : Nat) (R : RS × List POp × Int) (now' : Nat) : Prop where
  le : now' ≤ 1152921504606846976
  near : 0 < M.n → now' ≤ now + 15
  st : St M R.1 now' (k + 1)
  ok : R.2.2 = 0 → now' = t
  bad : R.2.2 ≠ 0 → now' = now ∧ R.2.1 = [] ∧ R.1.act = s.act
  run : R.2.2 = 0 → ∀ last, last ≤ now → Runs M now' s.act last R.2.1 ∧ R.1.act = actsF s.act R.2.1
  ge : now ≤ now'
theorem act_none {a b : RS} (ha : Up M a) (hb : Up M b) (hn : M.n = 0) : a.act = b.act := by
  funext i
  cases h1 : a.act i with
  | true => have := ha.dom i h1; omega
  | false =>
    cases h2 : b.act i with
    | true => have := hb.dom i h2; omega
    | false => rfl
theorem do_none_ge (hn : M.n = 0) (c : CL) : s.clk ≤ (doC M s c now).1.clk := by
  unfold doC
  have hp : ∀ d t, putC M s d t = (s, [], 1) := fun d t => by unfold putC; rw [if_neg (by omega)]
  have hg : ∀ d t, getC M s d t = (s, [], 1) := fun d t => by unfold getC; rw [if_neg (by omega)]
  rw [hp, hg]
  split
  · exact Nat.le_refl _
  · split
    · unfold advC
      split
      · rename_i h
        show s.clk ≤ (advM M s _).1.clk
        rw [(advM_use M s _).2]
        exact h.1
      · exact Nat.le_refl _
    · exact Nat.le_refl _
theorem do_any (hO : Ordd M) (h : St M s now k) (c : CL) (hr : c.raw = false) (hnow : now ≤ 1152921504606846976) (hb : 0 < M.n → now + 15 ≤ 1152921504606846976) : ∃ now', DoAny M s now k (atM c M.n now).2 (doC M s c now) now' := by
  by_cases hn : 0 < M.n
  · obtain ⟨hat, hd, hcs⟩ := do_step hO h c hr hn (hb hn)
    rw [hat]
    have hlt : c.wait % 15 < 15 := Nat.mod_lt _ (by omega)
    rcases hcs with ⟨-, -, hR⟩ | ⟨-, hok, hdid, hst, -⟩
    · rw [hR]
      exact ⟨now, hnow, fun _ => by omega, ⟨h.good, h.sin, h.clk, fun i => Nat.le_succ_of_le (h.use i)⟩, (fun e => by cases e), fun _ => ⟨rfl, rfl, rfl⟩, (fun e => by cases e), Nat.le_refl _⟩
    · have := hb hn
      exact ⟨now + c.wait % 15, by omega, fun _ => by omega, hst, fun _ => rfl, fun e => absurd hok e, fun _ last hl => ⟨(hdid last hl).run, (hdid last hl).act⟩, Nat.le_add_right _ _⟩
  · have hn0 : M.n = 0 := by omega
    obtain ⟨now', h1, h2, h3, h4, h5⟩ := do_none h c hn0 hnow
    have ha := act_none h3.good.up h.good.up hn0
    refine ⟨now', h1, fun h => absurd h hn, ⟨h3.good, h3.sin, h3.clk, fun i => Nat.le_succ_of_le (h3.use i)⟩, h4, fun e => ⟨h5 e, h2, ha⟩, fun _ last _ => ?_, ?_⟩
    · rw [h2]
      exact ⟨trivial, ha⟩
    · have h6 := do_none_ge (s := s) (now := now) hn0 c
      rw [h.clk, h3.clk] at h6
      exact h6
end
/-- A device's parent and suppliers are suppliers in the manager. -/
theorem mem_newL {l : List ID} (h : Dev8 l) {k : Nat} {d : ID} (hd : l[k]? = some d) {p : Int} (hp : (0 ≤ d.par ∧ p = d.par) ∨ p ∈ d.sup) : (k, p.toNat) ∈ (newRM l).L := by
  show (k, p.toNat) ∈ toNs (idLinks 0 l)
  refine List.mem_map.2 ⟨((k : Int), p), mem_idLinks.2 ⟨k, d, hd, ?_⟩, by show (((k : Int).toNat, p.toNat) : Nat × Nat) = (k, p.toNat); rw [Int.toNat_natCast]⟩
  rw [Nat.zero_add]
  exact mem_linkOf.2 ⟨rfl, hp⟩
end Go.Proofs.Ytdocdgghphhdpaa

/- Walks: the law's large, reverse. -/
namespace Go.Proofs.Ytdocdgghphhdpaa
open Go.RowKit

def LgOk (raw : List DV) : Prop := raw.length ≤ 20 ∧ ∀ x ∈ raw, ∀ k, k < 4 → (x.rl k).length ≤ 20
def LgRet (w : World) (raw : List DV) (e : Ending) (w' : World) : Prop := ∃ b, e = .returned (.bool b) ∧ (b = false → LgOk raw) ∧ w = w'
def Lg1 (w : World) (raw : List DV) (m : Nat) (i : Value) (wr : World) : Prop := ∃ k : Nat, k ≤ raw.length ∧ i = .int .i64 (k : Int) ∧ (∀ j x, j < k → raw[j]? = some x → ∀ q, q < 4 → (x.rl q).length ≤ 20) ∧ w = wr ∧ m = raw.length - k
def Lg2 (w : World) (r : DV) (m : Nat) (i : Value) (wr : World) : Prop := ∃ k : Nat, k ≤ 4 ∧ i = .int .i64 (k : Int) ∧ (∀ q, q < k → (r.rl q).length ≤ 20) ∧ w = wr ∧ m = 4 - k
set_option maxHeartbeats 4000000 in
theorem large27_any (A : Option Addr) (cp : Nat) (raw : List DV) (w : World) (hr : DvsAt w A raw) (hl : raw.length ≤ maxLen) :
    Calls Try.prog 14 #[.slice A raw.length cp] w (LgRet w raw) := by
  unfold maxLen at hl
  have HR := hide hr
  clear hr
  by_cases h20 : 20 < raw.length
  · have h20' : (20 : Int) < (raw.length : Int) := by omega
    go_enter Try.func14, Try.ntmps14
    go_wp2
    go_ret
    exact ⟨true, rfl, (fun h => by cases h), rfl⟩
  · have h20' : ¬ (20 : Int) < (raw.length : Int) := by omega
    go_enter Try.func14, Try.ntmps14
    go_wp2
    go_loopg [3] raw.length (fun m i wr => Lg1 w raw m i wr)
    case atStart => exact ⟨0, by omega, rfl, fun j x hj => by omega, rfl, rfl⟩
    case round =>
      obtain ⟨k, hk, rfl, hall, rfl, hmm⟩ := hrel
      have HM := hide hmm
      have HALL := hide hall
      clear hmm hall
      by_cases hlt : k < raw.length
      · obtain ⟨r, hx⟩ : ∃ r, raw[k]? = some r := ⟨_, List.getElem?_eq_getElem hlt⟩
        have HX := hide hx
        have hkl : (k : Int) < (raw.length : Int) := by omega
        clear hx
        go_wp2
        go_loopg [4] 4 (fun m i wr => Lg2 w r m i wr)
        case atStart => exact ⟨0, by omega, rfl, fun j hj => by omega, rfl, rfl⟩
        case round =>
          obtain ⟨j, hj, rfl, hall, rfl, hmm⟩ := hrel
          have HM2 := hide hmm
          have HA2 := hide hall
          clear hmm hall
          by_cases hj4 : j < 4
          · obtain ⟨ob, oo, A', cp', rfl, cR, -⟩ := HR.out.rail HX.out hj4
            have hji : (j : Int) < 4 := by omega
            by_cases hb : 20 < (r.rl j).length
            · have hb' : (20 : Int) < ((r.rl j).length : Int) := by omega
              go_wp2
              go_ret
              exact ⟨true, rfl, (fun h => by cases h), rfl⟩
            · have hb' : ¬ (20 : Int) < ((r.rl j).length : Int) := by omega
              go_wp2
              go_roundg (4 - (j + 1))
              case measure => rw [HM2.out]; omega
              case rel =>
                refine ⟨j + 1, by omega, by go_num, fun q hq => ?_, rfl, rfl⟩
                by_cases e : q = j
                · subst e; omega
                · exact HA2.out q (by omega)
          · have hji : ¬ (j : Int) < 4 := by omega
            go_wp2
            go_roundg (raw.length - (k + 1))
            case measure => rw [HM.out]; omega
            case rel =>
              refine ⟨k + 1, by omega, by go_num, fun q x hq hx => ?_, rfl, rfl⟩
              by_cases e : q = k
              · subst e
                rw [HX.out] at hx
                injection hx with hx
                subst hx
                exact fun p hp => HA2.out p (by omega)
              · exact HALL.out q x (by omega) hx
      · have hkl : ¬ (k : Int) < (raw.length : Int) := by omega
        go_wp2
        go_ret
        refine ⟨false, rfl, fun _ => ⟨by omega, fun x hx q hq => ?_⟩, rfl⟩
        obtain ⟨j, hj⟩ := List.getElem?_of_mem hx
        exact HALL.out j x (by have := (List.getElem?_eq_some_iff.1 hj).1; omega) hj q hq
end Go.Proofs.Ytdocdgghphhdpaa

/- help.Equal at ints, walked. -/
namespace Go.Proofs.Ytdocdgghphhdpaa
open Go.RowKit

def EqRel {α : Type} (w : World) (la lb : List α) (m : Nat) (i : Value) (wr : World) : Prop := ∃ k : Nat, k ≤ la.length ∧ i = .int .i64 k ∧ la.take k = lb.take k ∧ Fr [] w wr ∧ m = la.length - k
set_option maxHeartbeats 1000000 in
theorem equalInts_any (A B : Option Addr) (cp cq : Nat) (la lb : List Int) (w : World) (ha : Row w A (la.map (Value.int .i64))) (hb : Row w B (lb.map (Value.int .i64))) (hn : la.length ≤ 4096) (_ : lb.length ≤ 4096) :
    Calls Try.prog 55 #[.slice A la.length cp, .slice B lb.length cq] w fun e w' => e = .returned (.bool (decide (la = lb))) ∧ Fr [] w w' := by
  have HA := hide ha
  have HB := hide hb
  clear ha hb
  by_cases hl : la.length = lb.length
  · have hne : ((la.length : Int) != (lb.length : Int)) = false := by simp [hl]
    have HL := hide hl
    clear hl
    go_enter Try.func55, Try.ntmps55
    go_wp2
    go_loopg [5] la.length (fun n i wr => EqRel w la lb n i wr)
    case atStart => exact ⟨0, Nat.zero_le _, rfl, rfl, Fr.refl _ _, rfl⟩
    case round =>
      obtain ⟨k, hk, rfl, heq, hfr, hmm⟩ := hrel
      have HEQ := hide heq
      have HM := hide hmm
      clear heq hmm
      by_cases hlt : k < la.length
      · have hlt2 : k < lb.length := by rw [← HL.out]; exact hlt
        obtain ⟨pa, hpa⟩ : ∃ pa, la[k]? = some pa := ⟨_, List.getElem?_eq_getElem hlt⟩
        obtain ⟨pb, hpb⟩ : ∃ pb, lb[k]? = some pb := ⟨_, List.getElem?_eq_getElem hlt2⟩
        obtain ⟨ob, oo, rfl, c1⟩ := (HA.out.fr0 hfr).int hpa
        obtain ⟨ob', oo', rfl, c3⟩ := (HB.out.fr0 hfr).int hpb
        have HPA := hide hpa
        have HPB := hide hpb
        clear hpa hpb
        have hk1 : (k : Int) < (la.length : Int) := by omega
        have hk2 : (k : Int) < (lb.length : Int) := by omega
        by_cases e1 : pa = pb
        · subst e1
          have eb : (pa != pa) = false := by simp
          go_wp2
          go_quiet (fail)
          go_wp2
          go_roundg (la.length - (k + 1))
          case measure => rw [HM.out]; omega
          case rel =>
            refine ⟨k + 1, by omega, by go_num, ?_, hfr.drewN _, rfl⟩
            rw [List.take_add_one, List.take_add_one, HPA.out, HPB.out, HEQ.out]
        · have eb : (pa != pb) = true := by simp [e1]
          go_wp2
          go_quiet (fail)
          go_wp2
          go_ret
          refine ⟨ret_bool ?_, hfr.drewN _⟩
          rw [eq_comm, decide_eq_false_iff_not]
          intro e
          have h1 := HPA.out
          rw [e, HPB.out] at h1
          injection h1 with h1
          exact e1 h1.symm
      · have hk1 : ¬ (k : Int) < (la.length : Int) := by omega
        go_wp2
        go_ret
        refine ⟨ret_bool ?_, hfr⟩
        rw [eq_comm, decide_eq_true_eq]
        have := HEQ.out
        rwa [List.take_of_length_le (by omega), List.take_of_length_le (by rw [← HL.out]; omega)] at this
  · have hne : ((la.length : Int) != (lb.length : Int)) = true := by simp; omega
    have hd : decide (la = lb) = false := decide_eq_false (fun e => hl (by rw [e]))
    have HD := hide hd
    clear hl hd
    go_enter Try.func55, Try.ntmps55
    go_wp2
    go_ret
    exact ⟨ret_bool HD.out.symm, Fr.refl _ _⟩
end Go.Proofs.Ytdocdgghphhdpaa

