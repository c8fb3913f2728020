/- The law ResumeManyWorkers, walked. -/
import Derived.Test.YtinengemeppefaaSchL0
import Derived.Test.YtinengemeppefaaSchM3
namespace Go.Proofs.Ytinengemeppefaa
open Go.RowKit

def EndRel (w4 : World) (g N : Nat) (S : List Slt) (m : Nat) (i : Value) (wr : World) : Prop := ∃ k : Nat, k ≤ N ∧ i = .int .i64 k ∧ FA wr g 33 uv N (endOf (S.take k)) ∧ Fr [] w4 wr ∧ m = N - k
def MwRel (w5 : World) (N m : Nat) (i : Value) (wr : World) : Prop := ∃ k : Nat, k ≤ N ∧ i = .int .i64 k ∧ Fr [] w5 wr ∧ m = N - k
def MwRel2 (w5 : World) (L : List (Nat × Nat)) (S : List Slt) (d m : Nat) (v i : Value) (wr : World) : Prop := ∃ j : Nat, j ≤ L.length ∧ v = .int .u64 (fmax (endOf S) (nb false (L.take j) d) : Int) ∧ i = .int .i64 j ∧ Fr [] w5 wr ∧ m = L.length - j
theorem nb_take_succ {L : List (Nat × Nat)} {j : Nat} {q : Nat × Nat} (h : L[j]? = some q) (f : Nat → Nat) (d : Nat) : fmax f (nb false (L.take (j + 1)) d) = if q.1 = d then max (fmax f (nb false (L.take j) d)) (f q.2) else fmax f (nb false (L.take j) d) := by
  rw [take_succ_some h, nb_snoc]
  by_cases e : q.1 = d
  · simp [ends, e, fmax_snoc]
  · simp [ends, e]
set_option maxHeartbeats 8000000 in
set_option maxRecDepth 100000 in
theorem manyWorkers_walk (n : Int) (A B : Option Addr) (cp cq : Nat) (raw : List (Int × Int)) (d : List Nat) (w : World) (hr : Row w A (pcs raw)) (hm : raw.length ≤ maxLen) (hd : Row w B (d.map uv)) (hdm : d.length ≤ maxLen) :
    Calls Try.prog 6 #[.int .i64 n, .slice A raw.length cp, .slice B d.length cq] w fun e w' => e = .returned (.bool true) ∧ Fr [] w w' := by
  unfold maxLen at hm
  have HR := hide hr
  have HD := hide hd
  clear hr hd
  by_cases h40 : 40 < raw.length
  · have hb : decide ((40 : Int) < (raw.length : Int)) = true := by simp; omega
    go_enter Try.func6, Try.ntmps6
    go_wp2_with fail
    refine (awake31_any w).mono ?_
    rintro e w1 ⟨rfl, hfr⟩
    go_wp2
    go_ret
    exact ⟨rfl, hfr⟩
  · have hb : decide ((40 : Int) < (raw.length : Int)) = false := by simp; omega
    have h40' : raw.length ≤ 40 := by omega
    clear h40 hm
    go_enter Try.func6, Try.ntmps6
    go_wp2_with fail
    refine (graph_any n A cp raw true w HR.out (by omega)).mono ?_
    rintro e w1 ⟨v1, rfl, hown1, hf1⟩
    obtain ⟨A1, c1, rfl, -, hrow1, -⟩ := own_slice hown1
    have hgok := graphM_ok n raw true
    have hN := gNodes_lt n
    generalize graphM n raw true = L at hgok hrow1 ⊢
    generalize gNodes n = N at hN hgok ⊢
    generalize umod n 13 = sh at hgok
    have HLL := hide (ofNs_length L)
    have HG := hide hrow1
    have HGO := hide hgok
    have hgl := hgok.len
    clear hrow1 hown1 hgok
    go_wp2_with fail
    refine (durations_any N B cq d w1 (HD.out.fr0 hf1) (by omega) hdm).mono ?_
    rintro e w2 ⟨v2, rfl, hown2, hf2⟩
    obtain ⟨A2, c2, rfl, -, hrow2, -⟩ := own_slice hown2
    have hul := durM_length N d
    have hcase := case31 (W := 16) HGO.out (by omega) (by omega) hul (fun x hx => Nat.le_trans (durM_le hx) (by decide))
    have hu11 : ∀ x ∈ durM N d, x ≤ 11 := fun x hx => durM_le hx
    generalize durM N d = u at hul hcase hu11 hrow2
    have HUL := hide hul
    have HU := hide hrow2
    have HC := hide hcase
    have HU11 := hide hu11
    have HG2 := hide (HG.out.fr0 hf2)
    have hsch := hcase.sch
    rw [show ((16 : Nat) : Int) = 16 from rfl] at hsch
    clear hrow2 hown2 hcase hu11 HG hul
    have hq := schedule31_any (N : Int) 16 A1 A2 c1 c2 (ofNs L) u w2 HG2.out HU.out (by have := HLL.out; omega)
    rw [HLL.out, HUL.out, hsch] at hq
    clear hsch
    go_wp2_with fail
    refine hq.mono ?_
    clear hq
    rintro e w3 ⟨v3, rfl, hown3, hf3⟩
    obtain ⟨A3, c3, rfl, hcap3, hrow3⟩ := own_slice' hown3
    have HS3 := hide hrow3
    have HG3 := hide (HG2.out.fr0 hf3)
    have HU3 := hide (HU.out.fr0 hf3)
    have hw3 := (hf1.call hf2).call hf3
    have HSLEN := hide HC.out.done.len
    have HCAP := hide hcap3
    clear hrow3 hown3 HG2 HU hf2 hf3 hcap3
    have hq := critical31_any (N : Int) A1 A2 c1 c2 (ofNs L) u w3 HG3.out HU3.out (by have := HLL.out; omega)
    rw [HLL.out, HUL.out, HC.out.cp] at hq
    have hord := greedy_ord N L
    have hspan := HC.out.done.span_cp (by omega) hord HC.out.full
    have htm := (HC.out.time_le HU11.out).1
    have hsoon : ∀ x ∈ sched N L (durF u) 16, x.s = fmax (endOf (sched N L (durF u) 16)) (nb false L x.d) := fun x hx => HC.out.done.soon (by omega) hx
    have hdlt : ∀ x ∈ sched N L (durF u) 16, x.d < N := fun x hx => by
      have := HC.out.done.inv.lt
      rw [← HC.out.done.eq] at this
      exact (this x hx).1
    have hend : ∀ x ∈ sched N L (durF u) 16, x.e ≤ mkspan (sched N L (durF u) 16) := (mkspan_spec _).1
    generalize sched N L (durF u) 16 = S at HS3 HSLEN HCAP hspan hsoon hdlt hend htm ⊢
    have hq2 := makespan31_any A3 c3 (S.map toR)
    simp only [List.length_map, mkR_toR, hspan] at hq2
    rw [hspan] at hend htm
    generalize cpM L (durF u) (greedy N L) = T at hq hq2 hend htm
    go_wp2_with fail
    refine hq.mono ?_
    clear hq
    rintro e w4 ⟨rfl, hf4⟩
    have HS4 := hide (HS3.out.fr0 hf4)
    have HG4 := hide (HG3.out.fr0 hf4)
    have hw4 := hw3.call hf4
    have HSOON := hide hsoon
    have HDLT := hide hdlt
    have HEND := hide hend
    have hne1 : ((S.length : Int) != (N : Int)) = false := by simp [HSLEN.out]
    have hne2 : ((T : Int) != (T : Int)) = false := by simp
    have hq := hq2 w4 (by rw [rcells_toR]; exact HS4.out) (by have := HSLEN.out; omega)
    clear hq2 hsoon hdlt hend hspan hord hf4 HS3 HU3 HG3
    go_wp2_with fail
    refine hq.mono ?_
    clear hq
    rintro e w5 ⟨rfl, hf5⟩
    have HS5 := hide (HS4.out.fr0 hf5)
    have HG5 := hide (HG4.out.fr0 hf5)
    have hw5 := hw4.call hf5
    have hmk := make_u64s N N (Nat.le_refl _) (by omega)
    have hnew : FA (w5.alloc (.cells (Array.replicate N (.int .u64 0)) 33)) w5.heap.size 33 uv N (fun _ => 0) := FA.new w5 33 uv 0 N
    have hfr0 : Fr [] w5 (w5.alloc (.cells (Array.replicate N (.int .u64 0)) 33)) := (Fr.refl _ _).alloc _
    clear hf5 HS4 HG4
    go_wp2
    generalize (w5.alloc (.cells (Array.replicate N (.int .u64 0)) 33)) = w6 at hnew hfr0 ⊢
    obtain ⟨g, hg⟩ : ∃ g, g = w5.heap.size := ⟨_, rfl⟩
    have hgw : w5.heap.size ≤ g := by omega
    rw [← hg] at hnew ⊢
    clear hg hmk
    go_loopg [15] N (fun m i wr => EndRel w5 g N S m i wr)
    case atStart => exact ⟨0, by omega, rfl, hnew.congr (fun i _ => by simp [endOf]), hfr0, rfl⟩
    case round =>
      clear hnew hfr0
      obtain ⟨k, hk, rfl, hfa, hfr, hmm⟩ := hrel
      have HM := hide hmm
      have HFA := hide hfa
      clear hmm hfa
      by_cases hlt : k < N
      · obtain ⟨x, hx⟩ : ∃ x, S[k]? = some x := ⟨_, List.getElem?_eq_getElem (by have := HSLEN.out; omega)⟩
        obtain ⟨ob, oo, e, c0, -, -, c3'⟩ := (HS5.out.fr0 hfr).slt hx
        subst e
        have hdN := HDLT.out x (List.mem_of_getElem? hx)
        have hkl : (k : Int) < (N : Int) := by omega
        have hk2 : (k : Int) < (S.length : Int) := by rw [HSLEN.out]; omega
        have hdi : (x.d : Int) < (N : Int) := by omega
        have hd1 := HFA.out.cell hdN
        have hd2 := HFA.out.frozen x.d
        have HX : Hid (∀ t, endOf (S.take (k + 1)) t = if t = x.d then x.e else endOf (S.take k) t) := hide (fun t => by rw [take_succ_some hx, endOf_snoc])
        clear hx
        generalize endOf (S.take k) x.d = y at hd1
        generalize x.d = d' at c0 hdN hdi hd1 hd2 HX
        generalize x.e = e' at c3' HX
        go_wp2
        go_region
        go_wp2
        all_goals
          go_roundg (N - (k + 1))
          case measure => rw [HM.out]; omega
          case rel => exact ⟨k + 1, by omega, by go_num, ((HFA.out.set_ d' e').fr0 (Fr.refl [] _).drew).congr (fun t _ => (HX.out t).symm), (hfr.set (.inr hgw) _).drew, rfl⟩
      · have hkl : ¬ (k : Int) < (N : Int) := by omega
        have hfa := HFA.out
        rw [List.take_of_length_le (by have := HSLEN.out; omega)] at hfa
        have HFA2 := hide hfa
        have HS6 := hide (HS5.out.fr0 hfr)
        have HG6 := hide (HG5.out.fr0 hfr)
        have hw6 := hw5.call hfr
        have HEL := hide (endOf_le HEND.out)
        clear hfa HFA HM hfr HS5 HG5
        go_wp2
        go_loopg [16] N (fun m i wq => MwRel wr N m i wq)
        case atStart => exact ⟨0, by omega, rfl, Fr.refl _ _, rfl⟩
        case round =>
          obtain ⟨k, hk, rfl, hfr, hmm⟩ := hrel
          have HM := hide hmm
          clear hmm
          by_cases hlt : k < N
          · obtain ⟨x, hx⟩ : ∃ x, S[k]? = some x := ⟨_, List.getElem?_eq_getElem (by have := HSLEN.out; omega)⟩
            have HX := hide hx
            have hkl : (k : Int) < (N : Int) := by omega
            have hk2 : (k : Int) < (S.length : Int) := by rw [HSLEN.out]; omega
            have HSO := hide (HSOON.out x (List.mem_of_getElem? hx))
            clear hx
            go_wp2
            go_loopg [17, 18] L.length (fun m v i wq => MwRel2 wr L S x.d m v i wq)
            case atStart => exact ⟨0, by omega, by simp [nb, fmax], rfl, Fr.refl _ _, rfl⟩
            case round =>
              obtain ⟨j, hj, rfl, rfl, hfj, hmm⟩ := hrel
              have HM2 := hide hmm
              clear hmm
              obtain ⟨ob, oo, e, x0, -, x2, -⟩ := ((HS6.out.fr0 hfr).fr0 hfj).slt HX.out
              subst e
              have hfb : fmax (endOf S) (nb false (L.take j) x.d) ≤ T := fmax_le fun s _ => HEL.out s
              by_cases hlt2 : j < L.length
              · obtain ⟨q, hq⟩ : ∃ q, L[j]? = some q := ⟨_, List.getElem?_eq_getElem hlt2⟩
                obtain ⟨ob2, oo2, e, l0, l1⟩ := ((HG6.out.fr0 hfr).fr0 hfj).link (ofNs_get hq)
                subst e
                have hjl : (j : Int) < (L.length : Int) := by omega
                have hq2 := (HC.out.lt q (List.mem_of_getElem? hq)).2
                have hqi : (q.2 : Int) < (N : Int) := by omega
                have hcell := ((HFA2.out.fr0 hfr).fr0 hfj).cell hq2
                have hel := HEL.out q.2
                have HNB := hide (nb_take_succ hq (endOf S) x.d)
                clear hq
                generalize endOf S q.2 = y at hcell hel HNB
                generalize fmax (endOf S) (nb false (L.take j) x.d) = t at hfb HNB ⊢
                simp only [ofN] at l0 l1
                have htb : (t : Int) ≤ 4096 := by omega
                have hyb : (y : Int) ≤ 4096 := by omega
                by_cases e : q.1 = x.d
                · have eb : ((q.1 : Int) == (x.d : Int)) = true := by simp [e]
                  rw [if_pos e] at HNB
                  clear e
                  by_cases hle : t ≤ y
                  · have hle' : (t : Int) ≤ (y : Int) := by omega
                    rw [Nat.max_eq_right hle] at HNB
                    clear hle
                    go_wp2
                    go_quiet (fail)
                    have l1' := Fr.cell ((Fr.refl [] wr).drewN nq) l1 (by simp)
                    have hcell' := Fr.cell ((Fr.refl [] wr).drewN nq) hcell (by simp)
                    go_wp2
                    all_goals
                      go_roundg (L.length - (j + 1))
                      case measure => rw [HM2.out]; omega
                      case rel => exact ⟨j + 1, by omega, by first | (rw [HNB.out]; done) | (rw [HNB.out]; congr 1; omega), by go_num, hfj.drewN _, rfl⟩
                  · have hle' : ¬ (t : Int) ≤ (y : Int) := by omega
                    rw [Nat.max_eq_left (by omega)] at HNB
                    clear hle
                    go_wp2
                    go_quiet (fail)
                    have l1' := Fr.cell ((Fr.refl [] wr).drewN nq) l1 (by simp)
                    have hcell' := Fr.cell ((Fr.refl [] wr).drewN nq) hcell (by simp)
                    go_wp2
                    all_goals
                      go_roundg (L.length - (j + 1))
                      case measure => rw [HM2.out]; omega
                      case rel => exact ⟨j + 1, by omega, by first | (rw [HNB.out]; done) | (rw [HNB.out]; congr 1; omega), by go_num, hfj.drewN _, rfl⟩
                · have eb : ((q.1 : Int) == (x.d : Int)) = false := by simp; omega
                  rw [if_neg e] at HNB
                  clear e
                  go_wp2
                  go_quiet (fail)
                  go_wp2
                  go_roundg (L.length - (j + 1))
                  case measure => rw [HM2.out]; omega
                  case rel => exact ⟨j + 1, by omega, by rw [HNB.out], by go_num, hfj.drewN _, rfl⟩
              · have hjl : ¬ (j : Int) < (L.length : Int) := by omega
                rw [List.take_of_length_le (by omega)]
                rw [← HSO.out]
                have eb : ((x.s : Int) != (x.s : Int)) = false := by simp
                go_wp2
                go_roundg (N - (k + 1))
                case measure => rw [HM.out]; omega
                case rel => exact ⟨k + 1, by omega, by go_num, hfr.call hfj, rfl⟩
          · have hkl : ¬ (k : Int) < (N : Int) := by omega
            go_wp2_with fail
            refine (awake31_any _).mono ?_
            rintro e w9 ⟨rfl, hf9⟩
            go_wp2
            go_ret
            exact ⟨rfl, (hw6.call hfr).call hf9⟩
end Go.Proofs.Ytinengemeppefaa
