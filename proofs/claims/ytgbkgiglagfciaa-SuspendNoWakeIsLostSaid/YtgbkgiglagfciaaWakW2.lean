/- Walks: wakeup.Sources: Counts, MustAbort, New. -/
import Derived.Test.YtgbkgiglagfciaaWakW1
import Derived.Deep.MidRow
namespace Go.Proofs.Ytgbkgiglagfciaa
open Go.RowKit

def headA (s : WS) : Array Value := ((List.range 32).flatMap s.src).toArray
theorem src_type : ∃ d, Try.prog.underlying 85 = some d ∧ d.isRow = true := ⟨.struct (Try.prog.fieldsOf 85), by kernel_rfl, rfl⟩
theorem run_index_wak (s : WS) {k : Nat} (hk : k < 32) (w : World) : (Instr.index 86 (.agg (headA s)) (.int .i64 (k : Int))).run Try.prog w = .ok (.agg #[.bool (s.a k), .bool (s.h k), .int .u64 (s.t k : Int)]) w := by
  have h : Try.prog.underlying 86 = some (.array 32 85) := by kernel_rfl
  obtain ⟨d, hd, hr⟩ := src_type
  have hagg : (isAgg 85).run Try.prog w = .ok true w := by
    unfold isAgg
    rw [Sem.run_bind, run_underlying hd w]
    cases d <;> simp_all
  have hs : (Try.prog.info? 85).map (·.size) = some 3 := by kernel_rfl
  have hsz : (sizeOf 85).run Try.prog w = .ok 3 w := by
    cases hq : Try.prog.info? 85 with
    | none => simp [hq] at hs
    | some i =>
      have : i.size = 3 := by simpa [hq] using hs
      simp [sizeOf, typeInfo, hq, this]
  have hk0 : 0 ≤ (k : Int) ∧ (k : Int) < 32 := by omega
  have hex : (headA s).extract (k * 3) (k * 3 + 3) = #[.bool (s.a k), .bool (s.h k), .int .u64 (s.t k : Int)] := by
    unfold headA
    rw [List.extract_toArray]
    congr 1
    apply List.ext_getElem?
    intro j
    rw [List.extract_eq_take_drop, List.getElem?_take]
    by_cases hj : j < 3
    · rw [if_pos (by omega), List.getElem?_drop, flat_get (f := s.src) s.src_len (l := List.range 32) (i := k) (a := k) (by simp [hk]) hj]
      rfl
    · rw [if_neg (by omega), List.getElem?_eq_none (by simp; omega)]
  simp [Instr.index, run_underlying h, asIntOf, hsz, part, hagg, hex]
  intro h
  omega
theorem run_load_head {w : World} {b : Nat} {s : WS} (h : WsAt w b s) : (Instr.loadAt 86 (.pointer (some ⟨b, 0, none⟩))).run Try.prog w = .ok (.agg (headA s)) w := by
  refine run_loadAt_mid w b 0 86 ((List.range 32).flatMap s.src) (.array 32 85) ?_ (by kernel_rfl) rfl ?_
  · intro j v hj
    have hl : j < 96 := by
      have := (List.getElem?_eq_some_iff.1 hj).1
      rwa [s.head_len] at this
    have hc := Blk.cell h (0 + j)
    rw [hc, List.getElem?_toArray, Nat.zero_add]
    unfold WS.wl
    rw [List.getElem?_append_left (by rw [s.head_len]; omega), hj]
  · rw [s.head_len]
    kernel_rfl
theorem wpList_load_head {w : World} {ops : Array Oper} {rest : List Oper} {dst : Option Tmp} {ty : TypeId} {pos : String} {af : Array Edge} {a : Act} {Q : Exit → Act → World → Prop} {x : Operand} (b : Nat) (s : WS) (hat : WsAt w b s) (hx : a.eval x = .pointer (some ⟨b, 0, none⟩))
    (h : wpList Try.prog ops Q rest (a.put dst (.agg (headA s))) w) : wpList Try.prog ops Q (⟨dst, .load 86 x, ty, pos, af, none⟩ :: rest) a w :=
  wpList_value w rfl _ w (by
    unfold execOp
    simp only [hx, Sem.run_bind, run_load_head hat, Result.andThen_ok, Sem.run_pure]) h
def CntRel (w : World) (s : WS) (m : Nat) (v c : Value) (wr : World) : Prop := ∃ k : Nat, k ≤ 32 ∧ v = .int .i64 k ∧ c = .int .i64 (cntM s k : Int) ∧ Fr [] w wr ∧ m = 32 - k
set_option maxHeartbeats 4000000 in
set_option maxRecDepth 100000 in
theorem wcounts_any {w : World} {b : Nat} {s : WS} (h : WsAt w b s) :
    Calls Try.prog 35 #[.pointer (some ⟨b, 0, none⟩)] w fun e w' => e = .returned (.tuple #[.int .i64 (s.ev : Int), .int .i64 (cntM s 32 : Int)]) ∧ Fr [] w w' := by
  have HAT := hide h
  have HI := hide (fun k (hk : k < 32) w => run_index_wak s (k := k) hk w)
  clear h
  go_enter Try.func35, Try.ntmps35
  go_upto_region 3 with (((with_reducible refine wpList_load_head b s HAT.out ?_ ?_); rfl))
  generalize headA s = H at HI ⊢
  go_loopg [11, 4] 32 (fun m v c wr => CntRel w s m v c wr)
  case atStart => exact ⟨0, by omega, rfl, rfl, Fr.refl _ _, rfl⟩
  case round =>
    obtain ⟨k, hk, rfl, rfl, hfr, hmm⟩ := hrel
    have HM := hide hmm
    clear hmm
    by_cases hlt : k < 32
    · have hkl : decide ((k : Int) < 32) = true := decide_eq_true (by omega)
      have hx := HI.out k hlt wr
      have HST := hide (cntM_succ s k)
      have hc32 := cntM_le s k
      generalize hav : s.a k = av at hx HST
      generalize s.h k = hv at hx
      generalize s.t k = tv at hx
      generalize cntM s k = c at HST hc32 ⊢
      have hf2 : Fr [] w (wr.alloc (.cells #[.bool av, .bool hv, .int .u64 (tv : Int)] 85)) := hfr.alloc _
      have hxb := Blk.new wr 85 #[.bool av, .bool hv, .int .u64 (tv : Int)]
      have x0 := hxb.cell 0
      simp only [List.getElem?_toArray, List.getElem?_cons_zero, List.getElem?_cons_succ] at x0
      have hwr : IntKind.i64.wrap ((c : Int) + 1) = (c : Int) + 1 := by simp [IntKind.wrap, IntKind.signed, IntKind.bits]; omega
      clear hxb hav
      go_upto_region 5 with (fail)
      generalize wr.alloc (.cells #[.bool av, .bool hv, .int .u64 (tv : Int)] 85) = w2 at hf2 x0 ⊢
      clear hx
      cases av
      · have HST2 : Hid (cntM s (k + 1) = c) := hide (by rw [HST.out]; simp)
        clear HST
        go_wp2
        go_roundg (32 - (k + 1))
        case measure => rw [HM.out]; omega
        case rel => exact ⟨k + 1, by omega, by go_num, by rw [HST2.out], hf2, rfl⟩
      · have HST2 : Hid (cntM s (k + 1) = c + 1) := hide (by rw [HST.out]; simp)
        clear HST
        go_wp2
        go_roundg (32 - (k + 1))
        case measure => rw [HM.out]; omega
        case rel => exact ⟨k + 1, by omega, by go_num, by rw [HST2.out]; go_num, hf2, rfl⟩
    · have hke : k = 32 := by omega
      subst hke
      have hkl : decide (((32 : Nat) : Int) < 32) = false := by decide
      obtain ⟨-, -, -, c3, -, -, -⟩ := (HAT.out.fr0 hfr).tl
      go_wp2
      go_ret2
      exact ⟨rfl, hfr⟩
def mustM (s : WS) : Bool := s.ar && (s.ev != s.rm || decide (0 < cntM s 32))
set_option maxHeartbeats 4000000 in
set_option maxRecDepth 100000 in
theorem wmust_any {w : World} {b : Nat} {s : WS} (h : WsAt w b s) :
    Calls Try.prog 40 #[.pointer (some ⟨b, 0, none⟩)] w fun e w' => e = .returned (.bool (mustM s)) ∧ Fr [] w w' := by
  have HAT := hide h
  clear h
  go_enter Try.func40, Try.ntmps40
  go_wp2_with fail
  refine (wcounts_any HAT.out).mono ?_
  rintro e w1 ⟨rfl, hf⟩
  obtain ⟨-, -, -, -, c4, c5, -⟩ := (HAT.out.fr0 hf).tl
  obtain ⟨M, hM⟩ : ∃ M, M = mustM s := ⟨_, rfl⟩
  have HM := hide hM
  unfold mustM at hM
  generalize cntM s 32 = c at hM ⊢
  generalize s.ar = av at c4 hM
  cases av
  · have HM2 : Hid (M = false) := hide (by rw [hM]; rfl)
    clear hM
    go_wp2
    go_ret
    exact ⟨ret_bool (by rw [← HM.out, HM2.out]), hf⟩
  · by_cases h1 : s.ev = s.rm
    · have b1 : ((s.ev : Int) != (s.rm : Int)) = false := by simp [h1]
      by_cases h2 : 0 < c
      · have b2 : decide ((0 : Int) < (c : Int)) = true := decide_eq_true (by omega)
        have b2n : decide (0 < c) = true := decide_eq_true h2
        have HM2 : Hid (M = true) := hide (by rw [hM]; simp [h2])
        clear h2 h1 hM
        go_wp2
        go_ret
        exact ⟨ret_bool (by rw [← HM.out, HM2.out]), hf⟩
      · have b2 : decide ((0 : Int) < (c : Int)) = false := decide_eq_false (by omega)
        have b2n : decide (0 < c) = false := decide_eq_false h2
        have HM2 : Hid (M = false) := hide (by rw [hM]; simp [h1]; omega)
        clear h2 h1 hM
        go_wp2
        go_ret
        exact ⟨ret_bool (by rw [← HM.out, HM2.out]), hf⟩
    · have b1 : ((s.ev : Int) != (s.rm : Int)) = true := by simp; omega
      have HM2 : Hid (M = true) := hide (by rw [hM]; simp [h1])
      clear h1 hM
      go_wp2
      go_ret
      exact ⟨ret_bool (by rw [← HM.out, HM2.out]), hf⟩
def ws0 (n : Nat) : WS := ⟨fun _ => false, fun _ => false, fun _ => 0, n, false, 0, 0, false, 0, 0⟩
theorem run_build_wak (n : Nat) (w : World) : (Instr.build 88 #[(1, .int .i64 (n : Int))]).run Try.prog w = .ok (.agg (ws0 n).wl.toArray) w := by kernel_rfl
theorem wpList_build_wak {w : World} {ops : Array Oper} {rest : List Oper} {dst : Option Tmp} {ty : TypeId} {pos : String} {af : Array Edge} {a : Act} {Q : Exit → Act → World → Prop} {x : Operand} (n : Nat) (hx : a.eval x = .int .i64 (n : Int))
    (h : wpList Try.prog ops Q rest (a.put dst (.agg (ws0 n).wl.toArray)) w) : wpList Try.prog ops Q (⟨dst, .build 88 #[(1, x)], ty, pos, af, none⟩ :: rest) a w :=
  wpList_value w rfl _ w (by
    unfold execOp
    simp only [List.map_toArray, List.map_cons, List.map_nil, hx, Sem.run_bind, run_build_wak, Result.andThen_ok, Sem.run_pure]) h
set_option maxHeartbeats 4000000 in
set_option maxRecDepth 100000 in
theorem wnew_any (n : Nat) (hn : n ≤ 32) (w : World) :
    Calls Try.prog 34 #[.int .i64 (n : Int)] w fun e w' => e = .returned (.tuple #[.pointer (some ⟨w.heap.size, 0, none⟩), .int .i64 0]) ∧ WsAt w' w.heap.size (ws0 n) ∧ Fr [] w w' := by
  have b1 : decide ((n : Int) < 0) = false := decide_eq_false (by omega)
  have b2 : decide ((32 : Int) < (n : Int)) = false := decide_eq_false (by omega)
  have hb : WsAt (w.alloc (.cells (ws0 n).wl.toArray 88)) w.heap.size (ws0 n) := Blk.new _ _ _
  have HB := hide hb
  clear hb hn
  go_enter Try.func34, Try.ntmps34
  go_wp2_with (((with_reducible refine wpList_build_wak n ?_ ?_); rfl))
  go_ret2
  exact ⟨rfl, HB.out, (Fr.refl _ _).alloc _⟩
end Go.Proofs.Ytgbkgiglagfciaa
