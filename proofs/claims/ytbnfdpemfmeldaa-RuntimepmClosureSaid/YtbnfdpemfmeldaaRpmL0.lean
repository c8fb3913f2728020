/- What the laws of chapter 28 share. -/
import Derived.Test.YtbnfdpemfmeldaaRpmW8
import Derived.Test.YtbnfdpemfmeldaaRpmW6
import Derived.Test.YtbnfdpemfmeldaaArr
namespace Go.Proofs.Ytbnfdpemfmeldaa
open Go.RowKit

theorem mod_still (v m : Int) (w : World) (h0 : 0 < m) (h1 : m ≤ 4096) :
    Calls Try.prog 15 #[.int .i64 v, .int .i64 m] w fun e w' => e = .returned (.int .i64 (umod v m.toNat)) ∧ w' = w := (mod_int v m w h0 h1).mono fun _ _ ⟨h, k⟩ => ⟨h, k.symm⟩
/-- The devices drawn stay where they lie while only blocks from base on turn. -/
theorem ids_stay {w w2 : World} {A : Option Addr} {cp : Nat} {out : List ID} (ho : w2.ownsRow w.heap.size 30 3 (.slice A out.length cp) out.length (idcs out)) (hs : ∀ x ∈ out, OwnSup w2 w.heap.size x) : ∀ (T : List Nat) (w' : World), Fr T w2 w' → (∀ i ∈ T, w2.heap.size ≤ i) → IdsAt w' A out := fun T w' k hT => by
  have h1 := own_fr ho k (fun b hb hm => by
    have := (own_block ho hb).2.1
    have := hT b hm
    omega)
  obtain ⟨_, _, e, -, hr, -⟩ := own_slice h1
  injection e with e1
  subst e1
  refine ⟨hr, fun x hx => OwnSup.at_ (own_fr (hs x hx) k (fun b hb hm => ?_))⟩
  have := (own_block (hs x hx) hb).2.1
  have := hT b hm
  omega
def clr (c : CL) : CL := { c with raw := false }
/-- The boxed call, its mark Raw wiped out. -/
theorem clr_blk {w : World} (c : CL) : Blk (w.alloc (.cells #[.int .i64 c.kind, .int .i64 c.dev, .int .u64 (c.wait : Int), .bool false] 54)) w.heap.size 54 #[.int .i64 c.kind, .int .i64 c.dev, .int .u64 (c.wait : Int), .bool false] := Blk.new w _ _
theorem clr_fr {w : World} (c : CL) : Fr [] w (w.alloc (.cells #[.int .i64 c.kind, .int .i64 c.dev, .int .u64 (c.wait : Int), .bool false] 54)) := (Fr.refl _ _).alloc _
theorem Fr.two {P : ML} {w2 w3 w4 : World} (h : Fr [] w2 w3) (k : Fr [P.b, P.g] w3 w4) (hb : w2.heap.size ≤ P.b) (hg : w2.heap.size ≤ P.g) : Fr [] w2 w4 := h.step k (fun i hi => .inr (by simp at hi; rcases hi with rfl | rfl <;> assumption))
end Go.Proofs.Ytbnfdpemfmeldaa
