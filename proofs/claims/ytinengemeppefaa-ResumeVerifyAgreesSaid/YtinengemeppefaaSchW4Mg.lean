/- Walks: resume.newScheduler, resume.check. -/
import Derived.Test.YtinengemeppefaaSchMemMg
import Derived.Test.YtinengemeppefaaSchW1Mg
namespace Go.Proofs.Ytinengemeppefaa
open Go.RowKit

theorem Blk.new' {w : World} {t : TypeId} {cs : Array Value} {g : Nat} (hg : g = w.heap.size) : Blk (w.alloc (.cells cs t)) g t cs := by
  subst hg
  exact Blk.new w t cs
theorem FA.at_ {α : Type} {X w : World} {g n : Nat} {t : TypeId} {e : α → Value} {x : α} (h : Fr [] (X.alloc (.cells (Array.replicate n (e x)) t)) w) (hg : g = X.heap.size) : FA w g t e n (fun _ => x) := by
  subst hg
  exact (FA.new X t e x n).fr0 h
def NewRet (w : World) (N W : Nat) (L : List (Nat × Nat)) (e : Ending) (w' : World) : Prop := ∃ b, e = .returned (.pointer (some ⟨b, 0, none⟩)) ∧ SchAt w' w.heap.size b N W L ⟨[], 0⟩ ∧ Fr [] w w'
set_option maxHeartbeats 2000000 in
theorem newScheduler_any (N W : Nat) (A : Option Addr) (cp : Nat) (l : List (Int × Int)) (w : World) (hr : Row w A (pcs l)) (hok : LinksOk N l) (hW : W ≤ 16) :
    Calls Try.prog 28 #[.int .i64 N, .slice A l.length cp, .int .i64 W] w (NewRet w N W (toNs l)) := by
  have hN : N ≤ 128 := by have := hok.2.1; omega
  have m1 := make_bools N N (Nat.le_refl _) (by omega)
  have m2 := make_u64s N N (Nat.le_refl _) (by omega)
  have m3 := make_u64s W W (Nat.le_refl _) (by omega)
  have HR := hide hr
  have HOK := hide hok
  clear hr hok
  go_enter Try.func28, Try.ntmps28
  go_wp2
  go_region_held3 (fun _ => True) (exact trivial) (first | (go_at_call 36; refine (suppliers31_any N A cp l _ (HR.out.fr0 (by repeat (first | exact Fr.refl _ _ | refine Fr.drewN ?_ _ | refine Fr.drew ?_ | refine Fr.alloc ?_ _))) HOK.out).mono ?_; rintro e w1 ⟨g, rfl, hls, hf1⟩))
  all_goals
    clear m1 m2 m3
    go_wp2
    go_ret
    refine ⟨_, rfl, ⟨g, _, _, _, .slice none 0 0, ⟨Blk.new' (by simp), (hls.mono ?_).fr0 (by repeat (first | exact Fr.refl _ _ | exact hf1 | refine Fr.drewN ?_ _ | refine Fr.drew ?_ | refine Fr.call ?_ hf1 | refine Fr.alloc ?_ _)), ?_, ?_, ?_, own_nil _ _ _ _, ?_, ?_, ?_, ?_, ?_⟩⟩, (by repeat (first | exact Fr.refl _ _ | exact hf1 | refine Fr.drewN ?_ _ | refine Fr.drew ?_ | refine Fr.call ?_ hf1 | refine Fr.alloc ?_ _))⟩
    · exact Fr.size (S := []) (by repeat (first | exact Fr.refl _ _ | exact hf1 | refine Fr.drewN ?_ _ | refine Fr.drew ?_ | refine Fr.call ?_ hf1 | refine Fr.alloc ?_ _))
    · apply FA.at_ (e := bv) (x := false)
      case h => repeat (first | exact Fr.refl _ _ | refine Fr.drewN ?_ _ | refine Fr.drew ?_ | refine Fr.call ?_ hf1 | refine Fr.alloc ?_ _)
      case hg => simp
    · apply FA.at_ (e := uv) (x := 0)
      case h => repeat (first | exact Fr.refl _ _ | refine Fr.drewN ?_ _ | refine Fr.drew ?_ | refine Fr.call ?_ hf1 | refine Fr.alloc ?_ _)
      case hg => simp
    · apply FA.at_ (e := uv) (x := 0)
      case h => repeat (first | exact Fr.refl _ _ | refine Fr.drewN ?_ _ | refine Fr.drew ?_ | refine Fr.call ?_ hf1 | refine Fr.alloc ?_ _)
      case hg => simp
    · have h1 := Fr.size hf1
      simp at h1 ⊢
      try omega
    all_goals
      have h1 := Fr.size hf1
      simp at h1 ⊢
      try omega
end Go.Proofs.Ytinengemeppefaa

