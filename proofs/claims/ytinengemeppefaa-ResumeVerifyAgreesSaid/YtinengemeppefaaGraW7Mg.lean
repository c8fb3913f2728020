/- Walks: law24.Graph. -/
import Derived.Test.YtinengemeppefaaGraM6Mg
import Derived.Test.YtinengemeppefaaApp
import Derived.Test.YtinengemeppefaaMgResumeVerify1
import Derived.Deep.QuietTactic
import Derived.BigQuiet
import Derived.Lib.Hide
import Derived.Deep.LoopGhost
import Derived.Deep.Cut
import Derived.Deep.CutBlock
namespace Go.Proofs.Ytinengemeppefaa
open Go.RowKit

theorem link_info : (Try.prog.info? 43).map (fun i => (i.zero, i.size, i.bytes)) = some (some (.agg #[.int .i64 0, .int .i64 0]), 2, 16) := by kernel_rfl
theorem quiet_id {P : Program} {f : FuncId} {args : Array Value} {w : World} {n : Nat} {v : Value} (h : Calls P f args (w.drewN n) fun e w' => e = .returned v ∧ w.drewN n = w') :
    Calls P f args (w.drewN n) fun e w'' => e = .returned v ∧ ∃ m, w'' = w.drewN m := h.mono fun _ _ ⟨he, hw⟩ => ⟨he, n, hw.symm⟩
def GrRel (w : World) (ac : Bool) (N sh : Nat) (raw : List (Int × Int)) (m : Nat) (v10 v11 : Value) (wr : World) : Prop :=
  ∃ k : Nat, k ≤ min raw.length 40 ∧ v11 = .int .i64 k ∧ wr.ownsRow w.heap.size 43 2 v10 (gLinks ac N sh (raw.take k)).length (pcs (ofNs (gLinks ac N sh (raw.take k)))) ∧ Fr [] w wr ∧ m = min raw.length 40 - k
def FrRel (w : World) (out : List (Nat × Nat)) (x : Nat × Nat) (m : Nat) (v15 v16 : Value) (wr : World) : Prop :=
  ∃ k : Nat, k ≤ out.length ∧ v15 = .bool (!decide (x ∈ out.take k)) ∧ v16 = .int .i64 k ∧ Fr [] w wr ∧ m = out.length - k
def GraphRet (w : World) (n : Int) (raw : List (Int × Int)) (ac : Bool) (e : Ending) (w' : World) : Prop :=
  ∃ v, e = .returned (.tuple #[.int .i64 (gNodes n), v]) ∧ w'.ownsRow w.heap.size 43 2 v (graphM n raw ac).length (pcs (ofNs (graphM n raw ac))) ∧ Fr [] w w'
theorem ofNs_get {L : List (Nat × Nat)} {i : Nat} {p : Nat × Nat} (h : L[i]? = some p) : (ofNs L)[i]? = some (ofN p) := by simp [ofNs, h]
theorem pcs_ofNs_snoc (L : List (Nat × Nat)) (c s : Nat) : pcs (ofNs (L ++ [(c, s)])) = pcs (ofNs L) ++ [.int .i64 (c : Int), .int .i64 (s : Int)] := by
  have : ofNs (L ++ [(c, s)]) = ofNs L ++ [ofN (c, s)] := by simp [ofNs]
  rw [this, pcs_snoc]
  rfl
theorem row_two (w : World) (t : TypeId) (a b : Value) : Row (w.alloc (.cells #[a, b] t)) (some ⟨w.heap.size, 0, none⟩) [a, b] := row_lit w #[a, b] t rfl

set_option maxHeartbeats 8000000 in
set_option maxRecDepth 100000 in
theorem graph_any (n : Int) (A : Option Addr) (cp : Nat) (raw : List (Int × Int)) (ac : Bool) (w : World) (hr : Row w A (pcs raw)) (hm : raw.length ≤ 4096) :
    Calls Try.prog 13 #[.int .i64 n, .slice A raw.length cp, .bool ac] w (GraphRet w n raw ac) := by
  obtain ⟨i0, hi0, hz0, hz1, hz2⟩ := info_parts link_info
  have HI := hide (And.intro hi0 (And.intro hz0 (And.intro hz1 hz2)))
  have HR := hide hr
  clear hr hi0 hz0 hz1 hz2
  go_enter Try.func13, Try.ntmps13
  go_wp2_with fail
  refine (mod_any n 14 _ (by omega) (by omega)).mono ?_
  rintro e w2 ⟨rfl, rfl⟩
  have hN14 := gNodes_lt n
  obtain ⟨N, hN⟩ : ∃ N, N = gNodes n := ⟨_, rfl⟩
  rw [show umod n 14 = N from hN.symm]
  rw [← hN] at hN14
  by_cases h2 : N < 2
  · have hgm : graphM n raw ac = [] := by
      unfold graphM
      rw [if_pos (by omega)]
    have HGM := hide hgm
    have HN := hide hN
    have h2' : (N : Int) < 2 := by omega
    clear hgm hN
    go_wp2
    go_ret2
    exact ⟨.slice none 0 0, by rw [HN.out]; rfl, by rw [HGM.out]; exact own_nil _ _ _ _, Fr.refl _ _⟩
  · have h2' : ¬ (N : Int) < 2 := by omega
    have hgm : graphM n raw ac = gLinks ac N (umod n 13) (raw.take 40) := by
      unfold graphM
      rw [if_neg (by omega), ← hN]
    have HGM := hide hgm
    have HN := hide hN
    clear hgm hN
    go_wp2_with fail
    refine (mod_any n 13 _ (by omega) (by omega)).mono ?_
    rintro e w2 ⟨rfl, rfl⟩
    have hsh := umod_lt n (show 0 < 13 by omega)
    generalize umod n 13 = sh at hsh HGM ⊢
    go_wp2
    go_loopg [10, 11] (min raw.length 40) (fun m v10 v11 wr => GrRel w ac N sh raw m v10 v11 wr)
    case atStart => exact ⟨0, by omega, rfl, own_nil _ _ _ _, Fr.refl _ _, rfl⟩
    case round =>
      obtain ⟨k, hk, rfl, hown, hfr, hmm⟩ := hrel
      have HM := hide hmm
      clear hmm
      by_cases hlt : k < min raw.length 40
      · have hkr : (k : Int) < (raw.length : Int) := by omega
        have hk40 : (k : Int) < 40 := by omega
        obtain ⟨p, hp⟩ : ∃ p, raw[k]? = some p := ⟨_, List.getElem?_eq_getElem (by omega)⟩
        obtain ⟨ob, oo, e, c1, c2⟩ := (HR.out.fr0 hfr).link hp
        subst e
        have hsn : gLinks ac N sh (raw.take (k + 1)) = gStep ac N sh (gLinks ac N sh (raw.take k)) p := by rw [take_succ_some hp, gLinks_snoc]
        have hlen := (gLinks_ok ac (N := N) (sh := sh) (by omega) (by omega) (raw.take k)).len
        rw [List.length_take] at hlen
        obtain ⟨out, hout⟩ : ∃ out, out = gLinks ac N sh (raw.take k) := ⟨_, rfl⟩
        rw [← hout] at hsn hown hlen
        unfold gStep at hsn
        obtain ⟨x, y⟩ := p
        simp only at c1 c2 hsn
        have hc := umod_lt x (show 0 < N by omega)
        have hs := umod_lt y (show 0 < N by omega)
        obtain ⟨A10, c10, rfl, -, hrow, -⟩ := own_slice hown
        have HOWN := hide hown
        have HROW := hide hrow
        have hol : out.length ≤ 40 := by omega
        clear hp hout hown hrow hlen
        generalize hce : umod x N = c at hc hsn
        generalize hse : umod y N = s at hs hsn
        have HCE := hide hce
        have HSE := hide hse
        have HSN := hide hsn
        clear hce hse hsn
        go_wp2
        go_quiet ((go_at_call 14; exact quiet_id (mod_any _ N _ (by omega) (by omega))))
        rw [HCE.out, HSE.out]
        have hfrd := hfr.drewN nq
        have hownd := own_fr HOWN.out ((Fr.refl [] wr).drewN nq) (fun _ _ => by simp)
        clear HOWN hfr c1 c2
        generalize wr.drewN nq = wd at hfrd hownd ⊢
        have HOWN := hide hownd
        clear hownd
        cases ac
        · have hori : gOri false sh c s = (c, s) := by simp [gOri]
          have hns : ¬ (false = true ∧ c = s) := by simp
          have HORI := hide hori
          rw [if_neg hns] at HSN
          clear hori hns
          have hbx := Blk.new wd 43 #[.int .i64 (c : Int), .int .i64 (s : Int)]
          have hfx := hfrd.alloc (.cells #[.int .i64 (c : Int), .int .i64 (s : Int)] 43)
          have hox := own_fr HOWN.out ((Fr.refl [] wd).alloc (.cells #[.int .i64 (c : Int), .int .i64 (s : Int)] 43)) (fun _ _ => by simp)
          go_wp2
          generalize (wd.alloc (.cells #[.int .i64 (c : Int), .int .i64 (s : Int)] 43)) = wx at hbx hfx hox ⊢
          generalize wd.heap.size = xb at hbx ⊢
          have HOX := hide hox
          have HBX := hide hbx
          clear hbx hox HOWN
          go_loopg [15, 16] out.length (fun m v15 v16 wr => FrRel wx out (c, s) m v15 v16 wr)
          case atStart => exact ⟨0, by omega, by simp, rfl, Fr.refl _ _, rfl⟩
          case round =>
            obtain ⟨j, hj, rfl, rfl, hfj, hmm⟩ := hrel
            have HM2 := hide hmm
            clear hmm
            have hbj := HBX.out.fr hfj (by simp)
            have d1 : wr.cell? ⟨xb, 0, none⟩ = some (.int .i64 (c : Int)) := hbj.cell 0
            have d2 : wr.cell? ⟨xb, 1, none⟩ = some (.int .i64 (s : Int)) := hbj.cell 1
            clear hbj
            have hoj := own_fr HOX.out hfj (fun _ _ => by simp)
            by_cases hlt2 : j < out.length
            · obtain ⟨q, hq⟩ : ∃ q, out[j]? = some q := ⟨_, List.getElem?_eq_getElem hlt2⟩
              obtain ⟨ob2, oo2, e, c3, c4⟩ := (Row.of_own hoj).link (ofNs_get hq)
              have hA10 := e
              have hjl : (j : Int) < (out.length : Int) := by omega
              have HQ := hide (take_succ_some hq)
              clear hq hoj e
              subst hA10
              obtain ⟨q1, q2⟩ := q
              simp only [ofN] at c3 c4
              cases hfresh : decide ((c, s) ∈ out.take j) with
              | true =>
                have HFR := hide (of_decide_eq_true hfresh)
                clear hfresh
                rw [Bool.not_true]
                go_wp2
                go_quiet (fail)
                go_wp2
                go_roundg (out.length - (j + 1))
                case measure => rw [HM2.out]; omega
                case rel =>
                  refine ⟨j + 1, by omega, ?_, by go_num, hfj.drewN _, rfl⟩
                  rw [HQ.out, decide_eq_true (List.mem_append_left _ HFR.out)]
                  rfl
              | false =>
                have HFR := hide (of_decide_eq_false hfresh)
                clear hfresh
                rw [Bool.not_false]
                have hcs : (c = q1 ∧ s = q2) ∨ (c = q1 ∧ ¬ q2 = s) ∨ ¬ q1 = c := by omega
                rcases hcs with ⟨rfl, rfl⟩ | ⟨rfl, e2⟩ | e1
                · go_wp2
                  go_quiet (fail)
                  go_wp2
                  go_roundg (out.length - (j + 1))
                  case measure => rw [HM2.out]; omega
                  case rel =>
                    refine ⟨j + 1, by omega, ?_, by go_num, hfj.drewN _, rfl⟩
                    rw [HQ.out, decide_eq_true (List.mem_append_right _ (List.mem_singleton.2 rfl))]
                    rfl
                · have hne : ¬ (c, s) = (c, q2) := fun e => by injection e with h1 h2; omega
                  have HNE := hide hne
                  clear hne
                  have e2' : ¬ (q2 : Int) = (s : Int) := by omega
                  go_wp2
                  go_quiet (fail)
                  go_wp2
                  go_roundg (out.length - (j + 1))
                  case measure => rw [HM2.out]; omega
                  case rel =>
                    refine ⟨j + 1, by omega, ?_, by go_num, hfj.drewN _, rfl⟩
                    rw [HQ.out, decide_eq_false (fun h => by
                      rcases List.mem_append.1 h with h | h
                      · exact HFR.out h
                      · exact HNE.out (List.mem_singleton.1 h))]
                    rfl
                · have hne : ¬ (c, s) = (q1, q2) := fun e => by injection e with h1 h2; omega
                  have HNE := hide hne
                  clear hne
                  have e2' : ¬ (q1 : Int) = (c : Int) := by omega
                  go_wp2
                  go_quiet (fail)
                  go_wp2
                  go_roundg (out.length - (j + 1))
                  case measure => rw [HM2.out]; omega
                  case rel =>
                    refine ⟨j + 1, by omega, ?_, by go_num, hfj.drewN _, rfl⟩
                    rw [HQ.out, decide_eq_false (fun h => by
                      rcases List.mem_append.1 h with h | h
                      · exact HFR.out h
                      · exact HNE.out (List.mem_singleton.1 h))]
                    rfl
            · have hjl : ¬ (j : Int) < (out.length : Int) := by omega
              rw [List.take_of_length_le (by omega)]
              cases hfresh : decide ((c, s) ∈ out) with
              | true =>
                have HFR := hide (of_decide_eq_true hfresh)
                have HOJ := hide hoj
                clear hfresh hoj
                rw [Bool.not_true]
                go_wp2
                go_roundg (min raw.length 40 - (k + 1))
                case measure => rw [HM.out]; omega
                case rel =>
                  refine ⟨k + 1, by omega, by go_num, ?_, hfx.call hfj, rfl⟩
                  rw [HSN.out, HORI.out, if_pos HFR.out]
                  exact HOJ.out
              | false =>
                have HFR := hide (of_decide_eq_false hfresh)
                have HOJ := hide hoj
                clear hfresh hoj
                rw [Bool.not_false]
                have hsz : w.heap.size ≤ wr.heap.size + 1 := by have := (hfx.call hfj).size; omega
                go_wp2_with (first
                  | (at_builtin
                     refine wpList_append_row _ rfl (.tmp 84) (.tmp 86) _ rfl w.heap.size 43 i0 (.agg #[.int .i64 0, .int .i64 0]) 2 16 Try.underlying22 HI.out.1 HI.out.2.1 HI.out.2.2.1 HI.out.2.2.2 rfl (by omega) (.slice A10 out.length c10) out.length (pcs (ofNs out)) rfl
                       (own_fr HOJ.out ((Fr.refl [] _).alloc _) (fun _ _ => by simp)) (some ⟨wr.heap.size, 0, none⟩) 1 1 [.int .i64 (c : Int), .int .i64 (s : Int)] rfl rfl (row_two wr _ _ _) (by intro u hu; simp at hu; rcases hu with rfl | rfl <;> rfl) (by simp only [maxLen]; omega) (by omega) (by simpa using hsz) ?_
                     intro v1 w9 hown9 hg9 hat9))
                have hf9 : Fr [] w w9 := ((hfx.call hfj).alloc _).grown hg9 (fun y hy => .inr (own_block HOJ.out hy).1)
                go_roundg (min raw.length 40 - (k + 1))
                case measure => rw [HM.out]; omega
                case rel =>
                  refine ⟨k + 1, by omega, by go_num, ?_, hf9, rfl⟩
                  rw [HSN.out, HORI.out, if_neg HFR.out, pcs_ofNs_snoc, List.length_append, List.length_singleton]
                  exact hown9
        · by_cases hcs : c = s
          · have hcb : ((c : Int) == (s : Int)) = true := by simp [hcs]
            rw [if_pos ⟨rfl, hcs⟩] at HSN
            clear hcs
            go_wp2
            go_roundg (min raw.length 40 - (k + 1))
            case measure => rw [HM.out]; omega
            case rel =>
              refine ⟨k + 1, by omega, by go_num, ?_, hfrd, rfl⟩
              rw [HSN.out]
              exact HOWN.out
          · have hcb : ((c : Int) == (s : Int)) = false := by simp; omega
            rw [if_neg (fun h => hcs h.2)] at HSN
            by_cases hrk : (7 * c + sh) % 13 < (7 * s + sh) % 13
            · have hori : gOri true sh c s = (s, c) := by simp [gOri, hrk]
              have hrb : (7 * (c : Int) + (sh : Int)) % 13 < (7 * (s : Int) + (sh : Int)) % 13 := by omega
              have HORI := hide hori
              clear hori hcs
              have hbx := Blk.new wd 43 #[.int .i64 (s : Int), .int .i64 (c : Int)]
              have hfx := hfrd.alloc (.cells #[.int .i64 (s : Int), .int .i64 (c : Int)] 43)
              have hox := own_fr HOWN.out ((Fr.refl [] wd).alloc (.cells #[.int .i64 (s : Int), .int .i64 (c : Int)] 43)) (fun _ _ => by simp)
              go_wp2
              generalize (wd.alloc (.cells #[.int .i64 (s : Int), .int .i64 (c : Int)] 43)) = wx at hbx hfx hox ⊢
              generalize wd.heap.size = xb at hbx ⊢
              have HOX := hide hox
              have HBX := hide hbx
              clear hbx hox HOWN
              go_loopg [15, 16] out.length (fun m v15 v16 wr => FrRel wx out (s, c) m v15 v16 wr)
              case atStart => exact ⟨0, by omega, by simp, rfl, Fr.refl _ _, rfl⟩
              case round =>
                obtain ⟨j, hj, rfl, rfl, hfj, hmm⟩ := hrel
                have HM2 := hide hmm
                clear hmm
                have hbj := HBX.out.fr hfj (by simp)
                have d1 : wr.cell? ⟨xb, 0, none⟩ = some (.int .i64 (s : Int)) := hbj.cell 0
                have d2 : wr.cell? ⟨xb, 1, none⟩ = some (.int .i64 (c : Int)) := hbj.cell 1
                clear hbj
                have hoj := own_fr HOX.out hfj (fun _ _ => by simp)
                by_cases hlt2 : j < out.length
                · obtain ⟨q, hq⟩ : ∃ q, out[j]? = some q := ⟨_, List.getElem?_eq_getElem hlt2⟩
                  obtain ⟨ob2, oo2, e, c3, c4⟩ := (Row.of_own hoj).link (ofNs_get hq)
                  have hA10 := e
                  have hjl : (j : Int) < (out.length : Int) := by omega
                  have HQ := hide (take_succ_some hq)
                  clear hq hoj e
                  subst hA10
                  obtain ⟨q1, q2⟩ := q
                  simp only [ofN] at c3 c4
                  cases hfresh : decide ((s, c) ∈ out.take j) with
                  | true =>
                    have HFR := hide (of_decide_eq_true hfresh)
                    clear hfresh
                    rw [Bool.not_true]
                    go_wp2
                    go_quiet (fail)
                    go_wp2
                    go_roundg (out.length - (j + 1))
                    case measure => rw [HM2.out]; omega
                    case rel =>
                      refine ⟨j + 1, by omega, ?_, by go_num, hfj.drewN _, rfl⟩
                      rw [HQ.out, decide_eq_true (List.mem_append_left _ HFR.out)]
                      rfl
                  | false =>
                    have HFR := hide (of_decide_eq_false hfresh)
                    clear hfresh
                    rw [Bool.not_false]
                    have hcs : (s = q1 ∧ c = q2) ∨ (s = q1 ∧ ¬ q2 = c) ∨ ¬ q1 = s := by omega
                    rcases hcs with ⟨rfl, rfl⟩ | ⟨rfl, e2⟩ | e1
                    · go_wp2
                      go_quiet (fail)
                      go_wp2
                      go_roundg (out.length - (j + 1))
                      case measure => rw [HM2.out]; omega
                      case rel =>
                        refine ⟨j + 1, by omega, ?_, by go_num, hfj.drewN _, rfl⟩
                        rw [HQ.out, decide_eq_true (List.mem_append_right _ (List.mem_singleton.2 rfl))]
                        rfl
                    · have hne : ¬ (s, c) = (s, q2) := fun e => by injection e with h1 h2; omega
                      have HNE := hide hne
                      clear hne
                      have e2' : ¬ (q2 : Int) = (c : Int) := by omega
                      go_wp2
                      go_quiet (fail)
                      go_wp2
                      go_roundg (out.length - (j + 1))
                      case measure => rw [HM2.out]; omega
                      case rel =>
                        refine ⟨j + 1, by omega, ?_, by go_num, hfj.drewN _, rfl⟩
                        rw [HQ.out, decide_eq_false (fun h => by
                          rcases List.mem_append.1 h with h | h
                          · exact HFR.out h
                          · exact HNE.out (List.mem_singleton.1 h))]
                        rfl
                    · have hne : ¬ (s, c) = (q1, q2) := fun e => by injection e with h1 h2; omega
                      have HNE := hide hne
                      clear hne
                      have e2' : ¬ (q1 : Int) = (s : Int) := by omega
                      go_wp2
                      go_quiet (fail)
                      go_wp2
                      go_roundg (out.length - (j + 1))
                      case measure => rw [HM2.out]; omega
                      case rel =>
                        refine ⟨j + 1, by omega, ?_, by go_num, hfj.drewN _, rfl⟩
                        rw [HQ.out, decide_eq_false (fun h => by
                          rcases List.mem_append.1 h with h | h
                          · exact HFR.out h
                          · exact HNE.out (List.mem_singleton.1 h))]
                        rfl
                · have hjl : ¬ (j : Int) < (out.length : Int) := by omega
                  rw [List.take_of_length_le (by omega)]
                  cases hfresh : decide ((s, c) ∈ out) with
                  | true =>
                    have HFR := hide (of_decide_eq_true hfresh)
                    have HOJ := hide hoj
                    clear hfresh hoj
                    rw [Bool.not_true]
                    go_wp2
                    go_roundg (min raw.length 40 - (k + 1))
                    case measure => rw [HM.out]; omega
                    case rel =>
                      refine ⟨k + 1, by omega, by go_num, ?_, hfx.call hfj, rfl⟩
                      rw [HSN.out, HORI.out, if_pos HFR.out]
                      exact HOJ.out
                  | false =>
                    have HFR := hide (of_decide_eq_false hfresh)
                    have HOJ := hide hoj
                    clear hfresh hoj
                    rw [Bool.not_false]
                    have hsz : w.heap.size ≤ wr.heap.size + 1 := by have := (hfx.call hfj).size; omega
                    go_wp2_with (first
                      | (at_builtin
                         refine wpList_append_row _ rfl (.tmp 84) (.tmp 86) _ rfl w.heap.size 43 i0 (.agg #[.int .i64 0, .int .i64 0]) 2 16 Try.underlying22 HI.out.1 HI.out.2.1 HI.out.2.2.1 HI.out.2.2.2 rfl (by omega) (.slice A10 out.length c10) out.length (pcs (ofNs out)) rfl
                           (own_fr HOJ.out ((Fr.refl [] _).alloc _) (fun _ _ => by simp)) (some ⟨wr.heap.size, 0, none⟩) 1 1 [.int .i64 (s : Int), .int .i64 (c : Int)] rfl rfl (row_two wr _ _ _) (by intro u hu; simp at hu; rcases hu with rfl | rfl <;> rfl) (by simp only [maxLen]; omega) (by omega) (by simpa using hsz) ?_
                         intro v1 w9 hown9 hg9 hat9))
                    have hf9 : Fr [] w w9 := ((hfx.call hfj).alloc _).grown hg9 (fun y hy => .inr (own_block HOJ.out hy).1)
                    go_roundg (min raw.length 40 - (k + 1))
                    case measure => rw [HM.out]; omega
                    case rel =>
                      refine ⟨k + 1, by omega, by go_num, ?_, hf9, rfl⟩
                      rw [HSN.out, HORI.out, if_neg HFR.out, pcs_ofNs_snoc, List.length_append, List.length_singleton]
                      exact hown9
            · have hori : gOri true sh c s = (c, s) := by simp [gOri, hrk]
              have hrb : ¬ (7 * (c : Int) + (sh : Int)) % 13 < (7 * (s : Int) + (sh : Int)) % 13 := by omega
              have HORI := hide hori
              clear hori hcs
              have hbx := Blk.new wd 43 #[.int .i64 (c : Int), .int .i64 (s : Int)]
              have hfx := hfrd.alloc (.cells #[.int .i64 (c : Int), .int .i64 (s : Int)] 43)
              have hox := own_fr HOWN.out ((Fr.refl [] wd).alloc (.cells #[.int .i64 (c : Int), .int .i64 (s : Int)] 43)) (fun _ _ => by simp)
              go_wp2
              generalize (wd.alloc (.cells #[.int .i64 (c : Int), .int .i64 (s : Int)] 43)) = wx at hbx hfx hox ⊢
              generalize wd.heap.size = xb at hbx ⊢
              have HOX := hide hox
              have HBX := hide hbx
              clear hbx hox HOWN
              go_loopg [15, 16] out.length (fun m v15 v16 wr => FrRel wx out (c, s) m v15 v16 wr)
              case atStart => exact ⟨0, by omega, by simp, rfl, Fr.refl _ _, rfl⟩
              case round =>
                obtain ⟨j, hj, rfl, rfl, hfj, hmm⟩ := hrel
                have HM2 := hide hmm
                clear hmm
                have hbj := HBX.out.fr hfj (by simp)
                have d1 : wr.cell? ⟨xb, 0, none⟩ = some (.int .i64 (c : Int)) := hbj.cell 0
                have d2 : wr.cell? ⟨xb, 1, none⟩ = some (.int .i64 (s : Int)) := hbj.cell 1
                clear hbj
                have hoj := own_fr HOX.out hfj (fun _ _ => by simp)
                by_cases hlt2 : j < out.length
                · obtain ⟨q, hq⟩ : ∃ q, out[j]? = some q := ⟨_, List.getElem?_eq_getElem hlt2⟩
                  obtain ⟨ob2, oo2, e, c3, c4⟩ := (Row.of_own hoj).link (ofNs_get hq)
                  have hA10 := e
                  have hjl : (j : Int) < (out.length : Int) := by omega
                  have HQ := hide (take_succ_some hq)
                  clear hq hoj e
                  subst hA10
                  obtain ⟨q1, q2⟩ := q
                  simp only [ofN] at c3 c4
                  cases hfresh : decide ((c, s) ∈ out.take j) with
                  | true =>
                    have HFR := hide (of_decide_eq_true hfresh)
                    clear hfresh
                    rw [Bool.not_true]
                    go_wp2
                    go_quiet (fail)
                    go_wp2
                    go_roundg (out.length - (j + 1))
                    case measure => rw [HM2.out]; omega
                    case rel =>
                      refine ⟨j + 1, by omega, ?_, by go_num, hfj.drewN _, rfl⟩
                      rw [HQ.out, decide_eq_true (List.mem_append_left _ HFR.out)]
                      rfl
                  | false =>
                    have HFR := hide (of_decide_eq_false hfresh)
                    clear hfresh
                    rw [Bool.not_false]
                    have hcs : (c = q1 ∧ s = q2) ∨ (c = q1 ∧ ¬ q2 = s) ∨ ¬ q1 = c := by omega
                    rcases hcs with ⟨rfl, rfl⟩ | ⟨rfl, e2⟩ | e1
                    · go_wp2
                      go_quiet (fail)
                      go_wp2
                      go_roundg (out.length - (j + 1))
                      case measure => rw [HM2.out]; omega
                      case rel =>
                        refine ⟨j + 1, by omega, ?_, by go_num, hfj.drewN _, rfl⟩
                        rw [HQ.out, decide_eq_true (List.mem_append_right _ (List.mem_singleton.2 rfl))]
                        rfl
                    · have hne : ¬ (c, s) = (c, q2) := fun e => by injection e with h1 h2; omega
                      have HNE := hide hne
                      clear hne
                      have e2' : ¬ (q2 : Int) = (s : Int) := by omega
                      go_wp2
                      go_quiet (fail)
                      go_wp2
                      go_roundg (out.length - (j + 1))
                      case measure => rw [HM2.out]; omega
                      case rel =>
                        refine ⟨j + 1, by omega, ?_, by go_num, hfj.drewN _, rfl⟩
                        rw [HQ.out, decide_eq_false (fun h => by
                          rcases List.mem_append.1 h with h | h
                          · exact HFR.out h
                          · exact HNE.out (List.mem_singleton.1 h))]
                        rfl
                    · have hne : ¬ (c, s) = (q1, q2) := fun e => by injection e with h1 h2; omega
                      have HNE := hide hne
                      clear hne
                      have e2' : ¬ (q1 : Int) = (c : Int) := by omega
                      go_wp2
                      go_quiet (fail)
                      go_wp2
                      go_roundg (out.length - (j + 1))
                      case measure => rw [HM2.out]; omega
                      case rel =>
                        refine ⟨j + 1, by omega, ?_, by go_num, hfj.drewN _, rfl⟩
                        rw [HQ.out, decide_eq_false (fun h => by
                          rcases List.mem_append.1 h with h | h
                          · exact HFR.out h
                          · exact HNE.out (List.mem_singleton.1 h))]
                        rfl
                · have hjl : ¬ (j : Int) < (out.length : Int) := by omega
                  rw [List.take_of_length_le (by omega)]
                  cases hfresh : decide ((c, s) ∈ out) with
                  | true =>
                    have HFR := hide (of_decide_eq_true hfresh)
                    have HOJ := hide hoj
                    clear hfresh hoj
                    rw [Bool.not_true]
                    go_wp2
                    go_roundg (min raw.length 40 - (k + 1))
                    case measure => rw [HM.out]; omega
                    case rel =>
                      refine ⟨k + 1, by omega, by go_num, ?_, hfx.call hfj, rfl⟩
                      rw [HSN.out, HORI.out, if_pos HFR.out]
                      exact HOJ.out
                  | false =>
                    have HFR := hide (of_decide_eq_false hfresh)
                    have HOJ := hide hoj
                    clear hfresh hoj
                    rw [Bool.not_false]
                    have hsz : w.heap.size ≤ wr.heap.size + 1 := by have := (hfx.call hfj).size; omega
                    go_wp2_with (first
                      | (at_builtin
                         refine wpList_append_row _ rfl (.tmp 84) (.tmp 86) _ rfl w.heap.size 43 i0 (.agg #[.int .i64 0, .int .i64 0]) 2 16 Try.underlying22 HI.out.1 HI.out.2.1 HI.out.2.2.1 HI.out.2.2.2 rfl (by omega) (.slice A10 out.length c10) out.length (pcs (ofNs out)) rfl
                           (own_fr HOJ.out ((Fr.refl [] _).alloc _) (fun _ _ => by simp)) (some ⟨wr.heap.size, 0, none⟩) 1 1 [.int .i64 (c : Int), .int .i64 (s : Int)] rfl rfl (row_two wr _ _ _) (by intro u hu; simp at hu; rcases hu with rfl | rfl <;> rfl) (by simp only [maxLen]; omega) (by omega) (by simpa using hsz) ?_
                         intro v1 w9 hown9 hg9 hat9))
                    have hf9 : Fr [] w w9 := ((hfx.call hfj).alloc _).grown hg9 (fun y hy => .inr (own_block HOJ.out hy).1)
                    go_roundg (min raw.length 40 - (k + 1))
                    case measure => rw [HM.out]; omega
                    case rel =>
                      refine ⟨k + 1, by omega, by go_num, ?_, hf9, rfl⟩
                      rw [HSN.out, HORI.out, if_neg HFR.out, pcs_ofNs_snoc, List.length_append, List.length_singleton]
                      exact hown9
      · have hkk : k = min raw.length 40 := by omega
        have hx : (k : Int) = 40 ∨ (k : Int) = (raw.length : Int) := by omega
        have hfin : gLinks ac N sh (raw.take k) = graphM n raw ac := by
          rw [HGM.out, hkk]
          congr 1
          by_cases h : raw.length ≤ 40
          · rw [Nat.min_eq_left h, List.take_length, List.take_of_length_le h]
          · rw [Nat.min_eq_right (by omega)]
        rw [hfin] at hown
        obtain ⟨A10, c10, rfl, -, -, -⟩ := own_slice hown
        have HOWN := hide hown
        clear hfin hown hkk
        go_wp2
        all_goals
          go_ret2
          exact ⟨.slice A10 (graphM n raw ac).length c10, by rw [HN.out]; rfl, HOWN.out, hfr⟩
end Go.Proofs.Ytinengemeppefaa

