/- What the laws of chapter 28 share. -/
import Derived.Test.YtbnfdpemfmeldaaRpmW8Mg
import Derived.Test.YtbnfdpemfmeldaaRpmW6Mg
import Derived.Test.YtbnfdpemfmeldaaMgRuntimeNew3
import Derived.Test.YtbnfdpemfmeldaaRpmP4Mg
namespace Go.Proofs.Ytbnfdpemfmeldaa
open Go.RowKit

theorem mod_still (v m : Int) (w : World) (h0 : 0 < m) (h1 : m ≤ 4096) :
    Calls Try.prog 15 #[.int .i64 v, .int .i64 m] w fun e w' => e = .returned (.int .i64 (umod v m.toNat)) ∧ w' = w := (mod_int v m w h0 h1).mono fun _ _ ⟨h, k⟩ => ⟨h, k.symm⟩
/-- The devices drawn stay where they lie while only blocks from base on turn. -/
theorem ids_stay {w w2 : World} {A : Option Addr} {cp : Nat} {out : List ID} (ho : w2.ownsRow w.heap.size 30 3 (.slice A out.length cp) out.length (idcs out)) (hs : ∀ x ∈ out, OwnSup w2 w.heap.size x) : ∀ (T : List Nat) (w' : World), Fr T w2 w' → (∀ i ∈ T, w2.heap.size ≤ i) → IdsAt w' A out := fun T w' k hT => by
  have h1 := own_fr ho k (fun b hb hm => by
    have := (own_block ho hb).2.1
    have := hT b hm
    omega)
  obtain ⟨_, _, e, -, hr, -⟩ := own_slice h1
  injection e with e1
  subst e1
  refine ⟨hr, fun x hx => OwnSup.at_ (own_fr (hs x hx) k (fun b hb hm => ?_))⟩
  have := (own_block (hs x hx) hb).2.1
  have := hT b hm
  omega
def clr (c : CL) : CL := { c with raw := false }
/-- The boxed call, its mark Raw wiped out. -/
theorem clr_blk {w : World} (c : CL) : Blk (w.alloc (.cells #[.int .i64 c.kind, .int .i64 c.dev, .int .u64 (c.wait : Int), .bool false] 54)) w.heap.size 54 #[.int .i64 c.kind, .int .i64 c.dev, .int .u64 (c.wait : Int), .bool false] := Blk.new w _ _
theorem clr_fr {w : World} (c : CL) : Fr [] w (w.alloc (.cells #[.int .i64 c.kind, .int .i64 c.dev, .int .u64 (c.wait : Int), .bool false] 54)) := (Fr.refl _ _).alloc _
theorem Fr.two {P : ML} {w2 w3 w4 : World} (h : Fr [] w2 w3) (k : Fr [P.b, P.g] w3 w4) (hb : w2.heap.size ≤ P.b) (hg : w2.heap.size ≤ P.g) : Fr [] w2 w4 := h.step k (fun i hi => .inr (by simp at hi; rcases hi with rfl | rfl <;> assumption))
end Go.Proofs.Ytbnfdpemfmeldaa

/- Plain: a call of the laws, with devices or without. No program is in sight here. -/
namespace Go.Proofs.Ytbnfdpemfmeldaa
section
variable {M : RM} {s : RS} {now k : Nat}
structure DoAny (M : RM) (s : RS) (now k t : Nat) (R : RS × List POp × Int) (now' : Nat) : Prop where
  le : now' ≤ 1152921504606846976
  near : 0 < M.n → now' ≤ now + 15
  st : St M R.1 now' (k + 1)
  ok : R.2.2 = 0 → now' = t
  bad : R.2.2 ≠ 0 → now' = now ∧ R.2.1 = [] ∧ R.1.act = s.act
  run : R.2.2 = 0 → ∀ last, last ≤ now → Runs M now' s.act last R.2.1 ∧ R.1.act = actsF s.act R.2.1
  ge : now ≤ now'
theorem act_none {a b : RS} (ha : Up M a) (hb : Up M b) (hn : M.n = 0) : a.act = b.act := by
  funext i
  cases h1 : a.act i with
  | true => have := ha.dom i h1; omega
  | false =>
    cases h2 : b.act i with
    | true => have := hb.dom i h2; omega
    | false => rfl
theorem do_none_ge (hn : M.n = 0) (c : CL) : s.clk ≤ (doC M s c now).1.clk := by
  unfold doC
  have hp : ∀ d t, putC M s d t = (s, [], 1) := fun d t => by unfold putC; rw [if_neg (by omega)]
  have hg : ∀ d t, getC M s d t = (s, [], 1) := fun d t => by unfold getC; rw [if_neg (by omega)]
  rw [hp, hg]
  split
  · exact Nat.le_refl _
  · split
    · unfold advC
      split
      · rename_i h
        show s.clk ≤ (advM M s _).1.clk
        rw [(advM_use M s _).2]
        exact h.1
      · exact Nat.le_refl _
    · exact Nat.le_refl _
theorem do_any (hO : Ordd M) (h : St M s now k) (c : CL) (hr : c.raw = false) (hnow : now ≤ 1152921504606846976) (hb : 0 < M.n → now + 15 ≤ 1152921504606846976) : ∃ now', DoAny M s now k (atM c M.n now).2 (doC M s c now) now' := by
  by_cases hn : 0 < M.n
  · obtain ⟨hat, hd, hcs⟩ := do_step hO h c hr hn (hb hn)
    rw [hat]
    have hlt : c.wait % 15 < 15 := Nat.mod_lt _ (by omega)
    rcases hcs with ⟨-, -, hR⟩ | ⟨-, hok, hdid, hst, -⟩
    · rw [hR]
      exact ⟨now, hnow, fun _ => by omega, ⟨h.good, h.sin, h.clk, fun i => Nat.le_succ_of_le (h.use i)⟩, (fun e => by cases e), fun _ => ⟨rfl, rfl, rfl⟩, (fun e => by cases e), Nat.le_refl _⟩
    · have := hb hn
      exact ⟨now + c.wait % 15, by omega, fun _ => by omega, hst, fun _ => rfl, fun e => absurd hok e, fun _ last hl => ⟨(hdid last hl).run, (hdid last hl).act⟩, Nat.le_add_right _ _⟩
  · have hn0 : M.n = 0 := by omega
    obtain ⟨now', h1, h2, h3, h4, h5⟩ := do_none h c hn0 hnow
    have ha := act_none h3.good.up h.good.up hn0
    refine ⟨now', h1, fun h => absurd h hn, ⟨h3.good, h3.sin, h3.clk, fun i => Nat.le_succ_of_le (h3.use i)⟩, h4, fun e => ⟨h5 e, h2, ha⟩, fun _ last _ => ?_, ?_⟩
    · rw [h2]
      exact ⟨trivial, ha⟩
    · have h6 := do_none_ge (s := s) (now := now) hn0 c
      rw [h.clk, h3.clk] at h6
      exact h6
end
/-- A device's parent and suppliers are suppliers in the manager. -/
theorem mem_newL {l : List ID} (h : Dev8 l) {k : Nat} {d : ID} (hd : l[k]? = some d) {p : Int} (hp : (0 ≤ d.par ∧ p = d.par) ∨ p ∈ d.sup) : (k, p.toNat) ∈ (newRM l).L := by
  show (k, p.toNat) ∈ toNs (idLinks 0 l)
  refine List.mem_map.2 ⟨((k : Int), p), mem_idLinks.2 ⟨k, d, hd, ?_⟩, by show (((k : Int).toNat, p.toNat) : Nat × Nat) = (k, p.toNat); rw [Int.toNat_natCast]⟩
  rw [Nat.zero_add]
  exact mem_linkOf.2 ⟨rfl, hp⟩
end Go.Proofs.Ytbnfdpemfmeldaa

