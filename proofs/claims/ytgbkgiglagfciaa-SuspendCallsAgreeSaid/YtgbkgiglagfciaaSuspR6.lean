/- Walks over the reference of layer 30: permutation, New. -/
import Derived.Test.YtgbkgiglagfciaaSuspR5
import Derived.Laws.MakeOwn
namespace Go.Proofs.Ytgbkgiglagfciaa
open Go.RowKit

theorem run_make_rowN {P : Program} (t e : TypeId) (i : TypeInfo) (z : Value) (ht : P.underlying t = some (.slice e)) (hi : P.info? e = some i) (hz : i.zero = some z)
    (kl kc : IntKind) (n c : Nat) (hnc : n ≤ c) (hbytes : i.bytes * c ≤ 281474976710656) (h63 : c ≤ 9223372036854775807) (w : World) :
    (Instr.makeSlice t (.int kl (n : Int)) (.int kc (c : Int))).run P w = .ok (.slice (some ⟨w.heap.size, 0, none⟩) n c) (w.alloc (.cells (madeCells z.cells (c * i.size)) e)) := by
  have hb : (i.bytes : Int) * (c : Int) ≤ 281474976710656 := by
    have h : ((i.bytes * c : Nat) : Int) ≤ 281474976710656 := by omega
    rwa [Int.natCast_mul] at h
  have hr := run_make (P := P) w t e i z ht hi hz kl kc n c (by omega) (by omega) hb (by omega)
  simp only [Int.toNat_natCast] at hr
  exact hr
theorem bool_info : (Try.prog.info? 4).map (fun i => (i.zero, i.size, i.bytes)) = some (some (.bool false), 1, 1) := by kernel_rfl
theorem made_get {z : Value} (hz : z.cells = #[z]) (n d : Nat) (h : d < n) : (madeCells z.cells (n * 1))[d]? = some z := by
  have hs : (madeCells z.cells (n * 1)).size = n * 1 := size_madeCells _ _
  rw [hz] at hs ⊢
  unfold madeCells
  simp [h, Nat.mod_one]

def SeenRow (w : World) (sb : Nat) (l : List Int) (k : Nat) : Prop := ∃ cs : Array Value, Blk w sb 4 cs ∧ ∀ d : Nat, d < l.length → cs[d]? = some (.bool (decide ((d : Int) ∈ l.take k)))
def PermRel (w : World) (sb : Nat) (l : List Int) (n : Nat) (i : Value) (wr : World) : Prop :=
  ∃ k : Nat, k ≤ l.length ∧ i = .int .i64 k ∧ SeenRow wr sb l k ∧ Fr [] w wr ∧ GoodTo l k ∧ n = l.length - k
def BoolRet (w : World) (p : Prop) (r : Ending) (w' : World) : Prop := ∃ b : Bool, r = .returned (.bool b) ∧ (b = true ↔ p) ∧ Fr [] w w'

set_option maxHeartbeats 1000000 in
theorem perm_any (A : Option Addr) (cp : Nat) (l : List Int) (w : World) (hr : Row w A (l.map (Value.int .i64))) (hn : l.length ≤ 4096) :
    Calls Try.prog 42 #[.slice A l.length cp] w (BoolRet w (Good l)) := by
  obtain ⟨i0, hi0, hz0, hz1, hz2⟩ := info_parts bool_info
  have hmk : ∀ W : World, (Instr.makeSlice 94 (.int .i64 (l.length : Int)) (.int .i64 (l.length : Int))).run Try.prog W = .ok (.slice (some ⟨W.heap.size, 0, none⟩) l.length l.length) (W.alloc (.cells (madeCells (Value.bool false).cells (l.length * 1)) 4)) := fun W => by
    have := run_make_rowN (P := Try.prog) 94 4 i0 (.bool false) Try.underlying94 hi0 hz0 .i64 .i64 l.length l.length (Nat.le_refl _) (by rw [hz2]; omega) (by omega) W
    rw [hz1] at this
    exact this
  have HR := hide hr
  clear hr hi0 hz0 hz1 hz2
  go_enter Try.func42, Try.ntmps42
  go_upto_region 2 with (fail)
  have hs0 : SeenRow (w.alloc (.cells (madeCells #[.bool false] l.length) 4)) w.heap.size l 0 := ⟨_, Blk.new _ _ _, fun d hd => by have := made_get (z := .bool false) rfl l.length d hd; rw [Nat.mul_one] at this; exact this.trans (by simp)⟩
  have hf0 : Fr [] w (w.alloc (.cells (madeCells #[.bool false] l.length) 4)) := (Fr.refl _ _).alloc _
  generalize (w.alloc (.cells (madeCells #[.bool false] l.length) 4)) = w1 at hs0 hf0 ⊢
  have hsb : w.heap.size ≤ w.heap.size := Nat.le_refl _
  generalize hsbe : w.heap.size = sb at hs0 ⊢
  have hsb2 : w.heap.size ≤ sb := by omega
  clear hmk hsb hsbe
  go_wp2
  go_loopg [4] l.length (fun n i wr => PermRel w sb l n i wr)
  case atStart => exact ⟨0, Nat.zero_le _, rfl, hs0, hf0, fun i d hi => absurd hi (Nat.not_lt_zero _), rfl⟩
  case round =>
    obtain ⟨k, hk, rfl, ⟨cs, hbk, hcs⟩, hfr, hgood, hm⟩ := hrel
    have HM := hide hm
    have HG := hide hgood
    have HCS := hide hcs
    clear hm hgood hcs hs0 hf0
    by_cases hlt : k < l.length
    · have hget : (l.map (Value.int .i64))[k]? = some (.int .i64 l[k]) := by simp [hlt]
      have hlk : l[k]? = some l[k] := List.getElem?_eq_getElem hlt
      obtain ⟨ob, oo, rfl, hc⟩ := (HR.out.fr0 hfr).at_ hget
      have HLK := hide hlk
      clear hget hlk
      generalize l[k] = d at hc HLK
      by_cases hneg : d < 0
      · have hb : decide (d < 0) = true := by simpa using hneg
        go_wp2
        go_ret
        refine ⟨false, rfl, ⟨(fun e => by cases e), fun h => ?_⟩, hfr⟩
        have := (h k d hlt HLK.out).1
        omega
      · obtain ⟨dn, rfl⟩ := Int.eq_ofNat_of_zero_le (show 0 ≤ d by omega)
        have hb : decide ((dn : Int) < 0) = false := by simp
        by_cases hge : l.length ≤ dn
        · have hb2 : decide ((l.length : Int) ≤ (dn : Int)) = true := by simpa using hge
          go_wp2
          go_ret
          refine ⟨false, rfl, ⟨(fun e => by cases e), fun h => ?_⟩, hfr⟩
          have := (h k dn hlt HLK.out).2.1
          omega
        · have hb2 : decide ((l.length : Int) ≤ (dn : Int)) = false := by simp; omega
          have hcell := (hbk.cell dn).trans (HCS.out dn (by omega))
          have hfz := hbk.frozen dn
          have hi1 : (dn : Int) < (l.length : Int) := by omega
          by_cases hin : (dn : Int) ∈ l.take k
          · have hb3 : decide ((dn : Int) ∈ l.take k) = true := by simpa using hin
            rw [hb3] at hcell
            clear hb3
            have HIN := hide hin
            clear hin
            go_wp2
            go_ret
            refine ⟨false, rfl, ⟨(fun e => by cases e), fun h => ?_⟩, hfr⟩
            exact absurd HIN.out (h k dn hlt HLK.out).2.2
          · have hb3 : decide ((dn : Int) ∈ l.take k) = false := by simpa using hin
            rw [hb3] at hcell
            clear hb3
            have HIN := hide hin
            clear hin
            go_wp2
            go_roundg (l.length - (k + 1))
            case measure => rw [HM.out]; omega
            case rel =>
              refine ⟨k + 1, by omega, by go_num, ⟨_, hbk.set_ dn (.bool true), fun e he => ?_⟩, hfr.set (.inr hsb2) _, ?_, rfl⟩
              · by_cases hed : e = dn
                · subst hed
                  have hx : (e : Int) ∈ l.take (k + 1) := (mem_take_succ HLK.out).2 (.inr rfl)
                  rw [Array.getElem?_setIfInBounds_self, if_pos (lt_of_get (HCS.out e he))]
                  simp [hx]
                · rw [Array.getElem?_setIfInBounds_ne (Ne.symm hed), HCS.out e he]
                  have hx : (e : Int) ∈ l.take (k + 1) ↔ (e : Int) ∈ l.take k := by
                    rw [mem_take_succ HLK.out]
                    constructor
                    · rintro (h | h)
                      · exact h
                      · omega
                    · exact .inl
                  simp [hx]
              · exact HG.out.succ HLK.out (by omega) (by omega) HIN.out
    · have hkl : k = l.length := by omega
      have HK := hide hkl
      clear hkl
      go_wp2
      go_ret
      refine ⟨true, rfl, ⟨fun _ => ?_, fun _ => rfl⟩, hfr⟩
      have := HG.out
      rw [HK.out] at this
      exact this
end Go.Proofs.Ytgbkgiglagfciaa
