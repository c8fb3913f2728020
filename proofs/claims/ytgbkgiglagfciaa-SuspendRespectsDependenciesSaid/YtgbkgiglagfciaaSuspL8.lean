/- The law SuspendRespectsDependencies, walked. -/
import Derived.Test.YtgbkgiglagfciaaSuspP4
import Derived.Test.YtgbkgiglagfciaaSuspW6
import Derived.Test.YtgbkgiglagfciaaSuspW8
import Derived.Test.YtgbkgiglagfciaaGraW4o
import Derived.Test.YtgbkgiglagfciaaGraW7
namespace Go.Proofs.Ytgbkgiglagfciaa
open Go.RowKit

set_option maxRecDepth 100000 in
theorem run_alloc_at (w : World) : (Instr.alloc 58 true (.tuple #[])).run Try.prog w = .ok (.pointer (some ⟨w.heap.size, 0, none⟩)) (w.alloc (.cells (Array.replicate 144 (.int .i64 0)) 58)) := by kernel_rfl
theorem wpList_alloc_at {w : World} {ops : Array Oper} {rest : List Oper} {dst : Option Tmp} {ty : TypeId} {pos : String} {af : Array Edge} {a : Act} {Q : Exit → Act → World → Prop}
    (h : wpList Try.prog ops Q rest (a.put dst (.pointer (some ⟨w.heap.size, 0, none⟩))) (w.alloc (.cells (Array.replicate 144 (.int .i64 0)) 58))) : wpList Try.prog ops Q (⟨dst, .alloc 58, ty, pos, af, none⟩ :: rest) a w :=
  wpList_value w rfl _ _ (by
    unfold execOp
    simp only [Sem.run_bind, run_alloc_at, Result.andThen_ok, Sem.run_pure]) h
def AtRel (w3 : World) (g : Nat) (o : List Nat) (m : Nat) (i : Value) (wr : World) : Prop := ∃ k : Nat, k ≤ 8 * o.length ∧ i = .int .i64 k ∧ FA wr g 58 iv 144 (fun x => (atF o k x : Int)) ∧ Fr [] w3 wr ∧ m = 8 * o.length - k
def LkRel (w4 : World) (n m : Nat) (i : Value) (wr : World) : Prop := ∃ k : Nat, k ≤ n ∧ i = .int .i64 k ∧ Fr [] w4 wr ∧ m = n - k
def PhRel (w4 : World) (m : Nat) (i : Value) (wr : World) : Prop := ∃ p : Nat, 2 ≤ p ∧ p ≤ 5 ∧ i = .int .i64 p ∧ Fr [] w4 wr ∧ m = 5 - p
set_option maxHeartbeats 8000000 in
set_option maxRecDepth 100000 in
theorem respects_walk (n : Int) (A : Option Addr) (cp : Nat) (raw : List (Int × Int)) (w : World) (hr : Row w A (pcs raw)) (hm : raw.length ≤ maxLen) :
    Calls Try.prog 10 #[.int .i64 n, .slice A raw.length cp] w fun e w' => e = .returned (.bool true) ∧ Fr [] w w' := by
  unfold maxLen at hm
  have HR := hide hr
  clear hr
  by_cases h40 : 40 < raw.length
  · have hb : decide ((40 : Int) < (raw.length : Int)) = true := by simp; omega
    go_enter Try.func10, Try.ntmps10
    go_wp2_with fail
    refine (awake30_any w).mono ?_
    rintro e w1 ⟨rfl, hfr⟩
    go_wp2
    go_ret
    exact ⟨rfl, hfr⟩
  · have hb : decide ((40 : Int) < (raw.length : Int)) = false := by simp; omega
    have h40' : raw.length ≤ 40 := by omega
    clear h40 hm
    go_enter Try.func10, Try.ntmps10
    go_wp2_with fail
    refine (graph_any n A cp raw true w HR.out (by omega)).mono ?_
    rintro e w1 ⟨v1, rfl, hown1, hf1⟩
    obtain ⟨A1, c1, rfl, -, hrow1, -⟩ := own_slice hown1
    have hgok := graphM_ok n raw true
    have hN := gNodes_lt n
    generalize graphM n raw true = L at hgok hrow1 ⊢
    generalize gNodes n = N at hN hgok ⊢
    generalize umod n 13 = sh at hgok
    have HLL := hide (ofNs_length L)
    have HG := hide hrow1
    have hgl := hgok.len
    have hbas := (hgok.links (by omega)).2.2
    have hful : (greedy N L).length = N := (greedy_full hgok.lt).2 hgok.acyc
    have HLT := hide hgok.lt
    clear hrow1 hown1 hgok
    have hq := order_any24 (N : Int) A1 c1 (ofNs L) w1 HG.out (by have := HLL.out; omega)
    unfold OrderRet at hq
    rw [HLL.out, orderM_ok hbas (by rw [toNs_ofNs]; exact hful), toNs_ofNs] at hq
    have hgo := greedy_ok N L
    have hsup := greedy_prefix N L
    generalize greedy N L = o at hq hful hgo hsup
    have HGO := hide hgo
    have HSUP := hide hsup
    have HFUL := hide hful
    clear hbas hful hgo hsup
    go_wp2_with fail
    refine hq.mono ?_
    clear hq
    rintro e w2 ⟨v2, rfl, hown2, hf2⟩
    simp only at hown2 ⊢
    obtain ⟨A2, c2, rfl, hA2, hrow2, -⟩ := own_slice hown2
    have hne : ((o.length : Int) != (N : Int)) = false := by simp [HFUL.out]
    have hperm : o.Perm (List.range o.length) := by
      rw [HFUL.out, List.perm_ext_iff_of_nodup HGO.out.nodup List.nodup_range]
      intro a
      rw [List.mem_range]
      exact ⟨HGO.out.lt a, fun ha => mem_of_full HGO.out.lt HGO.out.nodup HFUL.out ha⟩
    have hok : okB (toInts o) = true := okB_iff.2 ⟨by rw [toInts, List.length_map, HFUL.out]; omega, good_of_perm hperm⟩
    have hli : (toInts o).length = o.length := by simp [toInts]
    have hq := trace_any A2 none c2 0 (toInts o) [] w2 (by rw [toInts_nv]; exact hrow2) hA2 (by rw [hli, HFUL.out]; omega) (Row.nil _ _) (by simp)
    unfold OwnRet at hq
    rw [trace_clean hok, hli] at hq
    have HG2 := hide (HG.out.fr0 hf2)
    have hw2 := hf1.call hf2
    clear hrow2 hown2 hA2 hperm hok hli HG hf2
    go_wp2_with fail
    refine hq.mono ?_
    clear hq
    rintro e w3 ⟨v3, rfl, hown3, hf3⟩
    obtain ⟨A3, c3, rfl, -, hrow3, -⟩ := own_slice hown3
    have hl8 : ((List.range (8 * o.length)).map (opAt o)).length = 8 * o.length := by simp
    rw [hl8]
    have HR3 := hide hrow3
    have HG3 := hide (HG2.out.fr0 hf3)
    have hw3 := hw2.call hf3
    have hb8 : (((8 * o.length : Nat) : Int) != 8 * (N : Int)) = false := by simp [HFUL.out]
    have hoN : o.length ≤ 13 := by rw [HFUL.out]; omega
    clear hown3 hrow3 hl8 hf3 HG2 hw2
    go_upto_region 11 with ((with_reducible refine wpList_alloc_at ?_))
    have hnew : FA (w3.alloc (.cells (Array.replicate 144 (.int .i64 0)) 58)) w3.heap.size 58 iv 144 (fun _ => 0) := FA.new w3 58 iv 0 144
    have hfr0 : Fr [] w3 (w3.alloc (.cells (Array.replicate 144 (.int .i64 0)) 58)) := (Fr.refl _ _).alloc _
    generalize (w3.alloc (.cells (Array.replicate 144 (.int .i64 0)) 58)) = w4 at hnew hfr0 ⊢
    obtain ⟨g, hg⟩ : ∃ g, g = w3.heap.size := ⟨_, rfl⟩
    have hgw : w3.heap.size ≤ g := by omega
    rw [← hg] at hnew ⊢
    clear hg
    go_wp2
    go_loopg [11] (8 * o.length) (fun m i wr => AtRel w3 g o m i wr)
    case atStart => exact ⟨0, by omega, rfl, hnew.congr (fun i _ => by simp [atF]), hfr0, rfl⟩
    case round =>
      clear hnew hfr0
      obtain ⟨k, hk, rfl, hfa, hfr, hmm⟩ := hrel
      have HM := hide hmm
      have HFA := hide hfa
      clear hmm hfa
      by_cases hlt : k < 8 * o.length
      · have hg : ((List.range (8 * o.length)).map (opAt o))[k]? = some (opAt o k) := by rw [List.getElem?_map, List.getElem?_range hlt]; rfl
        obtain ⟨ob, oo, e, c0⟩ := (HR3.out.fr0 hfr).at_ (opCells_get hg).1
        obtain ⟨_, _, e', c1⟩ := (HR3.out.fr0 hfr).at_ (opCells_get hg).2
        subst e
        cases e'
        have h0 : 0 < o.length := by omega
        have hd8 : k / o.length < 8 := Nat.div_lt_of_lt_mul (by rw [Nat.mul_comm]; exact hlt)
        have hph : 1 ≤ (opAt o k).1 ∧ (opAt o k).1 ≤ 8 := ⟨Nat.le_add_left 1 (k / o.length), Nat.succ_le_of_lt hd8⟩
        have hdv : (opAt o k).2 < N := by
          unfold opAt
          simp only
          rw [← HFUL.out, devAt_get]
          exact getD_lt (fun v hv => by rw [HFUL.out]; exact HGO.out.lt v hv) (by have := Nat.mod_lt k h0; split <;> omega)
        have hkey : opKey o k = (opAt o k).1 * 16 + (opAt o k).2 := rfl
        have HAF : Hid (∀ x, atF o (k + 1) x = if x = opKey o k then k else atF o k x) := hide (fun x => rfl)
        rw [hkey] at HAF
        rw [← Nat.add_assoc] at c1
        clear hg hkey hd8
        generalize (opAt o k).1 = ph at c0 hph hdv HAF
        generalize (opAt o k).2 = dv at c1 hdv HAF
        have hkl : (k : Int) < ((8 * o.length : Nat) : Int) := by omega
        have hcell := HFA.out.cell (show ph * 16 + dv < 144 by omega)
        have hfz := HFA.out.frozen (ph * 16 + dv)
        have i1 : (1 : Int) ≤ (ph : Int) := by omega
        have i2 : (ph : Int) ≤ 8 := by omega
        have i3 : (dv : Int) < (N : Int) := by omega
        have i4 : (dv : Int) < 16 := by omega
        have i5 : (ph : Int) < 9 := by omega
        generalize (atF o k (ph * 16 + dv) : Int) = old at hcell
        go_wp2
        go_region
        go_wp2
        all_goals
          go_roundg (8 * o.length - (k + 1))
          case measure => rw [HM.out]; omega
          case rel =>
            refine ⟨k + 1, by omega, by go_num, ?_, (hfr.set (.inr hgw) _).drew, rfl⟩
            refine FA.congr ((HFA.out.set_ (ph * 16 + dv) (k : Int)).fr0 (Fr.refl [] _).drew) (fun x _ => ?_)
            rw [HAF.out]
            split <;> rfl
      · have hkl : ¬ (k : Int) < ((8 * o.length : Nat) : Int) := by omega
        obtain rfl : k = 8 * o.length := by omega
        have HG4 := hide (HG3.out.fr0 hfr)
        have hw4 := hw3.call hfr
        clear HM HG3 HR3 hfr
        go_wp2
        go_loopg [12] L.length (fun m i wq => LkRel wr L.length m i wq)
        case atStart => exact ⟨0, by omega, rfl, Fr.refl _ _, rfl⟩
        case round =>
          clear hkl hk hlt
          obtain ⟨k, hk, rfl, hfr, hmm⟩ := hrel
          have HM := hide hmm
          clear hmm
          by_cases hlt : k < L.length
          · obtain ⟨q, hq⟩ : ∃ q, L[k]? = some q := ⟨_, List.getElem?_eq_getElem hlt⟩
            obtain ⟨ob, oo, e, l0, l1⟩ := (HG4.out.fr0 hfr).link (ofNs_get hq)
            subst e
            have hqm := List.mem_of_getElem? hq
            have hqN := HLT.out q hqm
            have hkl : (k : Int) < (L.length : Int) := by omega
            obtain ⟨c, s⟩ := q
            simp only [ofN] at l0 l1 hqN
            have hresp := fun (p : Nat) (h2 : 2 ≤ p) (h4 : p ≤ 4) => respects HGO.out.nodup (fun v hv => by rw [HFUL.out]; exact HGO.out.lt v hv) (by omega) HSUP.out hqm (mem_of_full HGO.out.lt HGO.out.nodup HFUL.out hqN.1) h2 h4
            have HRESP := hide hresp
            clear hq hqm hresp
            go_wp2
            go_quiet (fail)
            go_wp2
            clear l0 l1
            have hfd : Fr [] _ (wr.drewN nq) := hfr.drewN nq
            generalize wr.drewN nq = wd at hfd ⊢
            go_loopg [15] 3 (fun m i wq => PhRel wd m i wq)
            case atStart => exact ⟨2, by omega, by omega, rfl, Fr.refl _ _, rfl⟩
            case round =>
              obtain ⟨p, h2, h5, rfl, hfp, hmm⟩ := hrel
              have HM2 := hide hmm
              clear hmm
              by_cases h4 : p ≤ 4
              · have hr := HRESP.out p h2 h4
                have hF := (HFA.out.fr0 hfd).fr0 hfp
                have a1 := hF.cell (show p * 16 + c < 144 by omega)
                have a2 := hF.cell (show p * 16 + s < 144 by omega)
                have a3 := hF.cell (show (9 - p) * 16 + c < 144 by omega)
                have a4 := hF.cell (show (9 - p) * 16 + s < 144 by omega)
                have r1 := hr.1
                have r2 := hr.2
                generalize atF o (8 * o.length) (p * 16 + c) = x1 at a1 r1
                generalize atF o (8 * o.length) (p * 16 + s) = x2 at a2 r1
                generalize atF o (8 * o.length) ((9 - p) * 16 + c) = x3 at a3 r2
                generalize atF o (8 * o.length) ((9 - p) * 16 + s) = x4 at a4 r2
                have a3' : wr.cell? ⟨g, (9 - (p : Int)).toNat * 16 + c, none⟩ = some (iv (x3 : Int)) := by rw [show (9 - (p : Int)).toNat = 9 - p by omega]; exact a3
                have a4' : wr.cell? ⟨g, (9 - (p : Int)).toNat * 16 + s, none⟩ = some (iv (x4 : Int)) := by rw [show (9 - (p : Int)).toNat = 9 - p by omega]; exact a4
                have d1 : decide ((x2 : Int) < (x1 : Int)) = false := decide_eq_false (by omega)
                have d1' : decide (x2 < x1) = false := decide_eq_false (by omega)
                have d2 : ¬ (x3 : Int) < (x4 : Int) := by omega
                have p1 : (2 : Int) ≤ (p : Int) := by omega
                have p2 : (p : Int) ≤ 4 := by omega
                have p3 : (0 : Int) ≤ 9 - (p : Int) := by omega
                have p4 : 9 - (p : Int) < 9 := by omega
                have p5 : (p : Int) < 9 := by omega
                have pc : (c : Int) < 16 := by omega
                have ps : (s : Int) < 16 := by omega
                clear hr hF r1 r2 HRESP
                go_wp2
                go_quiet (fail)
                go_wp2
                go_roundg (5 - (p + 1))
                case measure => rw [HM2.out]; omega
                case rel => exact ⟨p + 1, by omega, by omega, by go_num, hfp.drewN _, rfl⟩
              · have h4' : ¬ (p : Int) ≤ 4 := by omega
                go_wp2
                go_roundg (L.length - (k + 1))
                case measure => rw [HM.out]; omega
                case rel => exact ⟨k + 1, by omega, by go_num, hfd.call hfp, rfl⟩
          · have hkl : ¬ (k : Int) < (L.length : Int) := by omega
            go_wp2_with fail
            refine (awake30_any _).mono ?_
            rintro e w9 ⟨rfl, hf9⟩
            go_wp2
            go_ret
            exact ⟨rfl, (hw4.call hfr).call hf9⟩
end Go.Proofs.Ytgbkgiglagfciaa
