/- Walks: wakeup.Sources: Arm, Activate, Pulse, SetAlarm. -/
import Derived.Test.YtgbkgiglagfciaaWakW2
import Derived.Test.YtgbkgiglagfciaaStoreA
namespace Go.Proofs.Ytgbkgiglagfciaa
open Go.RowKit

theorem ws_info : (Try.prog.info? 88).map (·.size) = some 103 := by kernel_rfl
theorem ws_size (s : WS) : (Try.prog.info? 88).map (·.size) = some s.wl.toArray.size := by
  rw [ws_info]
  simp [s.wl_len]
theorem ws_one (s : WS) : ∀ u ∈ s.wl.toArray.toList, u.oneCell' = true := by
  intro u hu
  simp only [WS.wl, WS.src, WS.tl, List.toList_toArray, List.mem_append, List.mem_flatMap, List.mem_cons, List.not_mem_nil, or_false] at hu
  rcases hu with ⟨i, _, rfl | rfl | rfl⟩ | rfl | rfl | rfl | rfl | rfl | rfl | rfl <;> rfl
theorem run_alloc_ws (w : World) : (Instr.alloc 88 true (.tuple #[])).run Try.prog w = .ok (.pointer (some ⟨w.heap.size, 0, none⟩)) (w.alloc (.cells (ws0 0).wl.toArray 88)) := by kernel_rfl
section
variable {w : World} {ops : Array Oper} {rest : List Oper} {dst : Option Tmp} {ty : TypeId} {pos : String} {af : Array Edge} {a : Act} {Q : Exit → Act → World → Prop}
theorem wpList_alloc_ws
    (h : ∀ w', WsAt w' w.heap.size (ws0 0) → Fr [] w w' → w'.heap.size = w.heap.size + 1 → wpList Try.prog ops Q rest (a.put dst (.pointer (some ⟨w.heap.size, 0, none⟩))) w') : wpList Try.prog ops Q (⟨dst, .alloc 88, ty, pos, af, none⟩ :: rest) a w :=
  wpList_value w rfl _ _ (by
    unfold execOp
    simp only [Sem.run_bind, run_alloc_ws, Result.andThen_ok, Sem.run_pure]) (h _ (Blk.new _ _ _) ((Fr.refl _ _).alloc _) (by simp))
theorem run_load_ws {b : Nat} {s : WS} (h : WsAt w b s) : (Instr.loadAt 88 (.pointer (some ⟨b, 0, none⟩))).run Try.prog w = .ok (.agg s.wl.toArray) w := by
  refine run_loadAt_mid w b 0 88 s.wl (.struct (Try.prog.fieldsOf 88)) ?_ (by kernel_rfl) rfl ?_
  · intro j v hj
    rw [Blk.cell h (0 + j), List.getElem?_toArray, Nat.zero_add]
    exact hj
  · rw [s.wl_len]
    exact ws_info
theorem wpList_load_ws {x : Operand} (b : Nat) (s : WS) (hat : WsAt w b s) (hx : a.eval x = .pointer (some ⟨b, 0, none⟩))
    (h : wpList Try.prog ops Q rest (a.put dst (.agg s.wl.toArray)) w) : wpList Try.prog ops Q (⟨dst, .load 88 x, ty, pos, af, none⟩ :: rest) a w :=
  wpList_value w rfl _ w (by
    unfold execOp
    simp only [hx, Sem.run_bind, run_load_ws hat, Result.andThen_ok, Sem.run_pure]) h
theorem over_all {cur cs : Array Value} (h : cur.size = cs.size) : over cur 0 cs = cs := by
  apply Array.ext'
  simp [over, ← h]
theorem wpList_store_ws {p v : Operand} (b : Nat) (s0 s : WS) (hat : WsAt w b s0) (hp : a.eval p = .pointer (some ⟨b, 0, none⟩)) (hv : a.eval v = .agg s.wl.toArray)
    (h : ∀ w', WsAt w' b s → Fr [b] w w' → wpList Try.prog ops Q rest (a.put dst undef) w') : wpList Try.prog ops Q (⟨dst, .store 88 p v, ty, pos, af, none⟩ :: rest) a w := by
  have he : s0.wl.toArray.size = s.wl.toArray.size := by simp [WS.wl_len]
  refine wpList_store_row w rfl p v 88 rfl b 0 s.wl.toArray hp hv (ws_size s) s0.wl.toArray 88 hat (by omega) (ws_one s) (fun w' h1 h2 => ?_)
  rw [over_all he] at h1
  exact h w' h1 h2
end
set_option maxHeartbeats 4000000 in
set_option maxRecDepth 100000 in
theorem warm_ok {w : World} {b now ev : Nat} {s : WS} (h : WsAt w b s) (hck : s.ck ≤ now) (hnow : now ≤ 1152921504606846976) (hn : s.n ≤ 32) (hev : s.ev ≤ 1000) (hE : (advM now s).ev = ev) (hC : cntM (advM now s) 32 = 0) :
    Calls Try.prog 36 #[.pointer (some ⟨b, 0, none⟩), .int .i64 (ev : Int), .int .u64 (now : Int)] w fun e w' => e = .returned (.int .i64 0) ∧ WsAt w' b { advM now s with ar := true, rm := ev } ∧ Fr [b] w w' := by
  have HAT := hide h
  have HE := hide hE
  have HC := hide hC
  clear h hE hC
  go_enter Try.func36, Try.ntmps36
  go_wp2_with fail
  refine (wpermitted_any HAT.out hck hnow).mono ?_
  rintro e w1 ⟨rfl, rfl⟩
  go_upto_region 4 with (first | ((with_reducible refine wpList_load_ws b s HAT.out ?_ ?_); rfl) | (with_reducible refine wpList_alloc_ws ?_; intro w1 h1 hf1 hz1) | ((with_reducible refine wpList_store_ws w.heap.size (ws0 0) s h1 ?_ ?_ ?_); rfl; rfl; intro w2 h2 hf2))
  have hbl := HAT.out.lt
  have hf02 : Fr [] w w2 := hf1.step hf2 (fun i hi => .inr (by simp at hi; omega))
  have HB2 := hide (HAT.out.fr0 hf02)
  have H2 := hide h2
  generalize hgb : w.heap.size = c at *
  have hcb : c ≠ b := by omega
  clear h1 h2 hf1 hf2 hz1 w1
  go_wp2_with fail
  refine (wadvance_any H2.out hn hev).mono ?_
  rintro e w3 ⟨rfl, h3, hf3⟩
  have H3 := hide h3
  have hf03 : Fr [] w w3 := hf02.step hf3 (fun i hi => .inr (by simp at hi; omega))
  have HB3 := hide (HAT.out.fr0 hf03)
  clear h3 hf3 hf02 HB2 H2
  generalize hs2 : advM now s = s2 at H3 HE HC
  have HS2 := hide hs2
  clear hs2
  go_wp2_with fail
  refine (wcounts_any H3.out).mono ?_
  rintro e w4 ⟨rfl, hf4⟩
  rw [HE.out, HC.out]
  have hf04 := hf03.call hf4
  have h4 := H3.out.fr0 hf4
  have HB4 := hide (HB3.out.fr0 hf4)
  have b1 : ((ev : Int) != (ev : Int)) = false := by simp
  have b2 : decide ((0 : Int) < ((0 : Nat) : Int)) = false := by decide
  obtain ⟨-, -, -, -, c4, c5, -⟩ := h4.tl
  have f4 := h4.frozen 100
  have h5 := h4.putAr true
  obtain ⟨-, -, -, -, -, d5, -⟩ := h5.tl
  have f5 := h5.frozen 101
  have H6 := hide (h5.putRm ev)
  have d5' : (w4.setCell ⟨c, 100, none⟩ (.bool true)).cell? ⟨c, 101, none⟩ = some (.int .i64 (s2.rm : Int)) := d5
  have hf06 : Fr [] w ((w4.setCell ⟨c, 100, none⟩ (.bool true)).setCell ⟨c, 101, none⟩ (.int .i64 (ev : Int))) := (hf04.set (.inr (show w.heap.size ≤ c by omega)) _).set (.inr (show w.heap.size ≤ c by omega)) _
  have HB6 := hide (HAT.out.fr0 hf06)
  clear h4 h5 hf4 HB3 H3 HB4 c5 d5 hf03 hf04
  go_upto_region 11 with (first | ((with_reducible refine wpList_load_ws c { s2 with ar := true, rm := ev } H6.out ?_ ?_); rfl) | ((with_reducible refine wpList_store_ws b s { s2 with ar := true, rm := ev } HB6.out ?_ ?_ ?_); rfl; rfl; intro w7 h7 hf7))
  have H7 := hide h7
  have hf07 := (hf06.mono (S' := [b]) (fun _ _ h => by cases h)).trans hf7
  clear h7
  go_wp2
  go_ret
  exact ⟨rfl, by rw [HS2.out]; exact H7.out, hf07⟩
set_option maxHeartbeats 4000000 in
set_option maxRecDepth 100000 in
theorem wactivate_ok {w : World} {b now k : Nat} {s : WS} (h : WsAt w b s) (hk : k < s.n) (hck : s.ck ≤ now) (hnow : now ≤ 1152921504606846976) (hn : s.n ≤ 32) (hev : s.ev ≤ 1000) :
    Calls Try.prog 37 #[.pointer (some ⟨b, 0, none⟩), .int .i64 (k : Int), .int .u64 (now : Int)] w fun e w' => e = .returned (.int .i64 0) ∧ WsAt w' b (relM { advM now s with a := upd (advM now s).a k true } k) ∧ Fr [b] w w' := by
  have HAT := hide h
  clear h
  go_enter Try.func37, Try.ntmps37
  go_wp2_with fail
  refine (wexists_any HAT.out hk).mono ?_
  rintro e w1 ⟨rfl, rfl⟩
  go_wp2_with fail
  refine (wpermitted_any HAT.out hck hnow).mono ?_
  rintro e w1 ⟨rfl, rfl⟩
  go_wp2_with fail
  refine (wadvance_any HAT.out hn hev).mono ?_
  rintro e w2 ⟨rfl, h2, hf2⟩
  generalize hs2 : advM now s = s2 at h2
  have HS2 := hide hs2
  obtain ⟨c0, -, -⟩ := h2.src (i := k) (by omega)
  have f0 := h2.frozen (k * 3)
  have H3 := hide (h2.putA (i := k) (by omega) true)
  have hf3 : Fr [b] w (w2.setCell ⟨b, k * 3, none⟩ (.bool true)) := hf2.set (.inl (by simp)) _
  clear hs2 h2 hf2
  go_wp2_with fail
  refine (wrelease_any H3.out (by omega)).mono ?_
  rintro e w4 ⟨rfl, h4, hf4⟩
  have H4 := hide h4
  clear h4 c0 f0
  go_wp2
  go_ret
  exact ⟨rfl, by rw [HS2.out]; exact H4.out, hf3.trans hf4⟩
set_option maxHeartbeats 4000000 in
set_option maxRecDepth 100000 in
theorem wpulse_ok {w : World} {b now k : Nat} {s : WS} (h : WsAt w b s) (hk : k < s.n) (hck : s.ck ≤ now) (hnow : now ≤ 1152921504606846976) (hn : s.n ≤ 32) (hev : s.ev ≤ 900) (hna : (advM now s).a k = false) (hn2 : (advM now s).n ≤ 32) (hev2 : (advM now s).ev ≤ 1000) :
    Calls Try.prog 38 #[.pointer (some ⟨b, 0, none⟩), .int .i64 (k : Int), .int .u64 (now : Int), .int .u64 0] w fun e w' => e = .returned (.int .i64 0) ∧ WsAt w' b (advM now { advM now s with a := upd (advM now s).a k true, h := upd (advM now s).h k true, t := upd (advM now s).t k now }) ∧ Fr [b] w w' := by
  have HAT := hide h
  have HNA := hide hna
  have HN2 := hide hn2
  have HE2 := hide hev2
  clear h hna hn2 hev2
  go_enter Try.func38, Try.ntmps38
  go_wp2_with fail
  refine (wexists_any HAT.out hk).mono ?_
  rintro e w1 ⟨rfl, rfl⟩
  go_wp2_with fail
  refine (wpermitted_any HAT.out hck hnow).mono ?_
  rintro e w1 ⟨rfl, rfl⟩
  go_wp2_with fail
  refine (wadvance_any HAT.out hn (by omega)).mono ?_
  rintro e w2 ⟨rfl, h2, hf2⟩
  generalize hs2 : advM now s = s2 at h2 HNA HN2 HE2
  have HS2 := hide hs2
  have hk32 : k < 32 := by omega
  obtain ⟨c0, -, -⟩ := h2.src hk32
  rw [HNA.out] at c0
  have f0 := h2.frozen (k * 3)
  have h3 := h2.putA hk32 true
  obtain ⟨-, c1, -⟩ := h3.src hk32
  have f1 := h3.frozen (k * 3 + 1)
  have h4 := h3.putH hk32 true
  obtain ⟨-, -, c2⟩ := h4.src hk32
  have f2 := h4.frozen (k * 3 + 2)
  have H5 := hide (h4.putT hk32 now)
  have hf5 : Fr [b] w (((w2.setCell ⟨b, k * 3, none⟩ (.bool true)).setCell ⟨b, k * 3 + 1, none⟩ (.bool true)).setCell ⟨b, k * 3 + 2, none⟩ (.int .u64 (now : Int))) := ((hf2.set (.inl (by simp)) _).set (.inl (by simp)) _).set (.inl (by simp)) _
  have hwr : IntKind.u64.wrap (now : Int) = (now : Int) := by rw [IntKind.wrap_u64]; omega
  clear hs2 h2 h3 h4 hf2
  go_wp2_with fail
  refine (wadvance_any H5.out HN2.out HE2.out).mono ?_
  rintro e w6 ⟨rfl, h6, hf6⟩
  have H6 := hide h6
  clear h6 c0 f0 c1 f1 c2 f2
  go_wp2
  go_ret
  exact ⟨rfl, by rw [HS2.out]; exact H6.out, hf5.trans hf6⟩
set_option maxHeartbeats 4000000 in
set_option maxRecDepth 100000 in
theorem walarm_ok {w : World} {b now t : Nat} {s : WS} (h : WsAt w b s) (ht : t ≤ 1152921504606846976) (hck : s.ck ≤ now) (hnow : now ≤ 1152921504606846976) (hn : s.n ≤ 32) (hev : s.ev ≤ 900) (hn2 : (advM now s).n ≤ 32) (hev2 : (advM now s).ev ≤ 1000) :
    Calls Try.prog 39 #[.pointer (some ⟨b, 0, none⟩), .int .u64 (now : Int), .int .u64 (t : Int)] w fun e w' => e = .returned (.int .i64 0) ∧ WsAt w' b (advM now { advM now s with al := true, at_ := t }) ∧ Fr [b] w w' := by
  have HAT := hide h
  have HN2 := hide hn2
  have HE2 := hide hev2
  have b1 : decide ((1152921504606846976 : Int) < (t : Int)) = false := decide_eq_false (by omega)
  clear h hn2 hev2
  go_enter Try.func39, Try.ntmps39
  go_wp2_with fail
  refine (wpermitted_any HAT.out hck hnow).mono ?_
  rintro e w1 ⟨rfl, rfl⟩
  go_wp2_with fail
  refine (wadvance_any HAT.out hn (by omega)).mono ?_
  rintro e w2 ⟨rfl, h2, hf2⟩
  generalize hs2 : advM now s = s2 at h2 HN2 HE2
  have HS2 := hide hs2
  obtain ⟨-, c1, -⟩ := h2.tl
  have f1 := h2.frozen 97
  have h3 := h2.putAl true
  obtain ⟨-, -, c2, -⟩ := h3.tl
  have f2 := h3.frozen 98
  have H4 := hide (h3.putAt t)
  have hf4 : Fr [b] w ((w2.setCell ⟨b, 97, none⟩ (.bool true)).setCell ⟨b, 98, none⟩ (.int .u64 (t : Int))) := (hf2.set (.inl (by simp)) _).set (.inl (by simp)) _
  have c2' : (w2.setCell ⟨b, 97, none⟩ (.bool true)).cell? ⟨b, 98, none⟩ = some (.int .u64 (s2.at_ : Int)) := c2
  clear hs2 h2 h3 hf2 c2
  go_wp2_with fail
  refine (wadvance_any H4.out HN2.out HE2.out).mono ?_
  rintro e w6 ⟨rfl, h6, hf6⟩
  have H6 := hide h6
  clear h6 c1 f1 c2' f2
  go_wp2
  go_ret
  exact ⟨rfl, by rw [HS2.out]; exact H6.out, hf4.trans hf6⟩
end Go.Proofs.Ytgbkgiglagfciaa
