/- Walks: the law's Call.at; Tree.Accessible. -/
import Derived.Test.YtdocdgghphhdpaaMgDevicePower6
namespace Go.Proofs.Ytdocdgghphhdpaa
open Go.RowKit

/-- A call of Set. -/
structure TCL where
  dev : Int
  st : Int
  wait : Nat
  raw : Bool
def tclc (c : TCL) : List Value := [.int .i64 c.dev, .int .i64 c.st, .int .u64 (c.wait : Int), .bool c.raw]
def tclcs (l : List TCL) : List Value := l.flatMap tclc
theorem tclc_len (c : TCL) : (tclc c).length = 4 := rfl
theorem Row.tcl {w : World} {A : Option Addr} {l : List TCL} (hr : Row w A (tclcs l)) {i : Nat} {x : TCL} (h : l[i]? = some x) :
    ∃ ob oo, A = some ⟨ob, oo, none⟩ ∧ w.cell? ⟨ob, oo + i * 4, none⟩ = some (.int .i64 x.dev) ∧ w.cell? ⟨ob, oo + i * 4 + 1, none⟩ = some (.int .i64 x.st) ∧ w.cell? ⟨ob, oo + i * 4 + 2, none⟩ = some (.int .u64 (x.wait : Int)) ∧ w.cell? ⟨ob, oo + i * 4 + 3, none⟩ = some (.bool x.raw) := by
  obtain ⟨ob, oo, e, hc⟩ := Row.el (f := tclc) tclc_len (by omega) hr h
  exact ⟨ob, oo, e, hc 0 _ rfl, hc 1 _ rfl, hc 2 _ rfl, hc 3 _ rfl⟩
/-- The arguments of a call. -/
def tatM (c : TCL) (n now : Nat) : Int × Int × Nat := if c.raw = true ∨ n = 0 then (c.dev, c.st, c.wait) else ((umod c.dev n : Int), (umod c.st 5 : Int), now + c.wait % 20)
set_option maxHeartbeats 4000000 in
theorem at27_any (c : TCL) (n now : Nat) (w : World) (hn : n ≤ 64) (ht : now ≤ 1152921504606846976) :
    Calls Try.prog 19 #[.agg #[.int .i64 c.dev, .int .i64 c.st, .int .u64 (c.wait : Int), .bool c.raw], .int .i64 (n : Int), .int .u64 (now : Int)] w fun e w' => e = .returned (.tuple #[.int .i64 (tatM c n now).1, .int .i64 (tatM c n now).2.1, .int .u64 ((tatM c n now).2.2 : Int)]) ∧ Fr [] w w' := by
  have hb := Blk.new w 36 #[.int .i64 c.dev, .int .i64 c.st, .int .u64 (c.wait : Int), .bool c.raw]
  have hf : Fr [] w (w.alloc (.cells #[.int .i64 c.dev, .int .i64 c.st, .int .u64 (c.wait : Int), .bool c.raw] 36)) := (Fr.refl _ _).alloc _
  go_enter Try.func19, Try.ntmps19
  go_upto_region 1 with (fail)
  generalize w.alloc (.cells #[.int .i64 c.dev, .int .i64 c.st, .int .u64 (c.wait : Int), .bool c.raw] 36) = w1 at hb hf ⊢
  generalize w.heap.size = g at hb ⊢
  have c0 : w1.cell? ⟨g, 0, none⟩ = some (.int .i64 c.dev) := hb.cell 0
  have c1 : w1.cell? ⟨g, 1, none⟩ = some (.int .i64 c.st) := hb.cell 1
  have c2 : w1.cell? ⟨g, 2, none⟩ = some (.int .u64 (c.wait : Int)) := hb.cell 2
  have c3 : w1.cell? ⟨g, 3, none⟩ = some (.bool c.raw) := hb.cell 3
  clear hb
  by_cases h : c.raw = true ∨ n = 0
  · have HE : Hid (tatM c n now = (c.dev, c.st, c.wait)) := hide (by unfold tatM; rw [if_pos h])
    cases hr : c.raw with
    | true =>
      rw [hr] at c3
      clear h hr
      go_wp2
      go_quiet (fail)
      go_wp2
      go_ret3
      exact ⟨by rw [HE.out]; rfl, hf.drewN _⟩
    | false =>
      rw [hr] at c3
      obtain rfl : n = 0 := by simpa [hr] using h
      clear h hr
      go_wp2
      go_quiet (fail)
      go_wp2
      go_ret3
      exact ⟨by rw [HE.out]; rfl, hf.drewN _⟩
  · have hr : c.raw = false := by cases hr : c.raw with
      | true => exact absurd (.inl hr) h
      | false => rfl
    have hn0 : 0 < n := Nat.pos_of_ne_zero (fun e => h (.inr e))
    have HE : Hid (tatM c n now = ((umod c.dev n : Int), (umod c.st 5 : Int), now + c.wait % 20)) := hide (by unfold tatM; rw [if_neg h])
    rw [hr] at c3
    have hni : ((n : Int) == 0) = false := by simp; omega
    clear h hr
    have h15 : (c.wait : Int).tmod 20 = ((c.wait % 20 : Nat) : Int) := rfl
    have h15b : (c.wait : Int) % 20 = ((c.wait % 20 : Nat) : Int) := rfl
    have hlt15 : c.wait % 20 < 20 := by omega
    generalize c.wait % 20 = t at h15 h15b HE hlt15
    have hw15 : IntKind.u64.wrap ((now : Int) + (t : Int)) = ((now + t : Nat) : Int) := by rw [IntKind.wrap_u64]; omega
    have hn1 : (0 : Int) < (n : Int) := by omega
    have hn4 : (n : Int) ≤ 4096 := by omega
    go_upto_region 3 with (fail)
    go_region_held3 (fun w' => w'.cell? ⟨g, 0, none⟩ = some (.int .i64 c.dev) ∧ w'.cell? ⟨g, 1, none⟩ = some (.int .i64 c.st) ∧ w'.cell? ⟨g, 2, none⟩ = some (.int .u64 (c.wait : Int))) (go_keep) (first | (go_at_call 24; refine (mod_int _ _ _ (by omega) (by omega)).mono ?_; rintro e w' ⟨rfl, rfl⟩))
    all_goals
      go_wp2
      go_ret3
      exact ⟨by rw [HE.out]; rfl, hf.drew⟩
theorem tatM_bounds {c : TCL} {n now : Nat} (hr : c.raw = false) (hn : 0 < n) : ∃ d k : Nat, d < n ∧ k ≤ 4 ∧ tatM c n now = ((d : Int), (k : Int), now + c.wait % 20) := by
  refine ⟨umod c.dev n, umod c.st 5, umod_lt _ hn, by have := umod_lt c.st (show 0 < 5 by omega); omega, ?_⟩
  rw [tatM, if_neg (by rw [hr]; simp; omega)]
end Go.Proofs.Ytdocdgghphhdpaa

