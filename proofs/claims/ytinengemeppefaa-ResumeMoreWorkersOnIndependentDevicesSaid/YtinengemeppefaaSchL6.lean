/- The law ResumeFollowsLevels, walked. -/
import Derived.Test.YtinengemeppefaaSchL0
import Derived.Test.YtinengemeppefaaSchM4
namespace Go.Proofs.Ytinengemeppefaa
open Go.RowKit

theorem durF_repl {N c d : Nat} (h : d < N) : durF (List.replicate N c) d = c := by simp [durF, List.getD_eq_getElem?_getD, h]
def FlRel1 (w2 : World) (g N c : Nat) (m : Nat) (i : Value) (wr : World) : Prop := ∃ k : Nat, k ≤ N ∧ i = .int .i64 k ∧ FA wr g 33 uv N (fun i => if i < k then c else 0) ∧ Fr [] w2 wr ∧ m = N - k
def FlRel2 (w5 : World) (N m : Nat) (i : Value) (wr : World) : Prop := ∃ k : Nat, k ≤ N ∧ i = .int .i64 k ∧ Fr [] w5 wr ∧ m = N - k
set_option maxHeartbeats 8000000 in
set_option maxRecDepth 100000 in
theorem followsLevels_walk (n : Int) (A : Option Addr) (cp : Nat) (raw : List (Int × Int)) (xx : Nat) (hxx : xx ≤ 18446744073709551615) (w : World) (hr : Row w A (pcs raw)) (hm : raw.length ≤ maxLen) :
    Calls Try.prog 11 #[.int .i64 n, .slice A raw.length cp, .int .u64 (xx : Int)] w fun e w' => e = .returned (.bool true) ∧ Fr [] w w' := by
  unfold maxLen at hm
  have HR := hide hr
  clear hr
  by_cases h40 : 40 < raw.length
  · have hb : decide ((40 : Int) < (raw.length : Int)) = true := by simp; omega
    go_enter Try.func11, Try.ntmps11
    go_wp2_with fail
    refine (awake31_any w).mono ?_
    rintro e w1 ⟨rfl, hfr⟩
    go_wp2
    go_ret
    exact ⟨rfl, hfr⟩
  · have hb : decide ((40 : Int) < (raw.length : Int)) = false := by simp; omega
    have h40' : raw.length ≤ 40 := by omega
    clear h40 hm
    go_enter Try.func11, Try.ntmps11
    go_wp2_with fail
    refine (graph_any n A cp raw true w HR.out (by omega)).mono ?_
    rintro e w1 ⟨v1, rfl, hown1, hf1⟩
    obtain ⟨A1, c1, rfl, -, hrow1, -⟩ := own_slice hown1
    have hgok := graphM_ok n raw true
    have hN := gNodes_lt n
    generalize graphM n raw true = L at hgok hrow1 ⊢
    generalize gNodes n = N at hN hgok ⊢
    generalize umod n 13 = sh at hgok
    have HLL := hide (ofNs_length L)
    have HG := hide hrow1
    have hgl := hgok.len
    obtain ⟨c, hc⟩ : ∃ c, c = 1 + xx % 20 := ⟨_, rfl⟩
    have hcb : 1 ≤ c ∧ c ≤ 20 := by omega
    have hci : (1 : Int) + (xx : Int) % 20 = (c : Int) := by omega
    have hcase := case31 (W := 16) (u := List.replicate N c) hgok (by omega) (by omega) (by simp) (fun x hx => by
      rw [(List.mem_replicate.1 hx).2]
      unfold maxD
      omega)
    have HC := hide hcase
    have hmk := make_u64s N N (Nat.le_refl _) (by omega)
    have hnew : FA (w1.alloc (.cells (Array.replicate N (.int .u64 0)) 33)) w1.heap.size 33 uv N (fun _ => 0) := FA.new w1 33 uv 0 N
    have hfr0 : Fr [] w1 (w1.alloc (.cells (Array.replicate N (.int .u64 0)) 33)) := (Fr.refl _ _).alloc _
    clear hrow1 hown1 hgok hcase hc
    go_wp2
    generalize (w1.alloc (.cells (Array.replicate N (.int .u64 0)) 33)) = w2 at hnew hfr0 ⊢
    obtain ⟨g, hg⟩ : ∃ g, g = w1.heap.size := ⟨_, rfl⟩
    have hgw : w1.heap.size ≤ g := by omega
    rw [← hg] at hnew ⊢
    clear hg hmk
    go_loopg [10] N (fun m i wr => FlRel1 w1 g N c m i wr)
    case atStart => exact ⟨0, by omega, rfl, hnew.congr (fun i _ => by simp), hfr0, rfl⟩
    case round =>
      clear hnew hfr0
      obtain ⟨k, hk, rfl, hfa, hfr, hmm⟩ := hrel
      have HM := hide hmm
      have HFA := hide hfa
      clear hmm hfa
      by_cases hlt : k < N
      · have hkl : (k : Int) < (N : Int) := by omega
        have hc0 := HFA.out.cell hlt
        have hc1 := HFA.out.frozen k
        go_wp2
        go_roundg (N - (k + 1))
        case measure => rw [HM.out]; omega
        case rel =>
          refine ⟨k + 1, by omega, by go_num, ?_, hfr.set (.inr hgw) _, rfl⟩
          refine FA.congr (HFA.out.set_ k c) (fun j _ => ?_)
          by_cases e : j = k
          · rw [if_pos e, if_pos (by omega)]
          · rw [if_neg e]
            by_cases e2 : j < k
            · rw [if_pos e2, if_pos (by omega)]
            · rw [if_neg e2, if_neg (by omega)]
      · have hkl : ¬ (k : Int) < (N : Int) := by omega
        have hfa := (HFA.out.congr (f' := fun _ => c) (fun i hi => if_pos (by omega))).row
        rw [List.map_const', List.length_range] at hfa
        have HV3 := hide hfa
        have HG3 := hide (HG.out.fr0 hfr)
        have hw3 := hf1.call hfr
        have hsch := HC.out.sch
        rw [show ((16 : Nat) : Int) = 16 from rfl] at hsch
        have hq := schedule31_any (N : Int) 16 A1 (some ⟨g, 0, none⟩) c1 N (ofNs L) (List.replicate N c) wr HG3.out HV3.out (by have := HLL.out; omega)
        rw [HLL.out, List.length_replicate, hsch] at hq
        have hdone := sched_done (D := fun _ => c) HC.out.lt HC.out.ac (show 0 < 16 by omega)
        have hsc := sched_congr (N := N) (L := L) (W := 16) (D := durF (List.replicate N c)) (D' := fun _ => c) (fun d hd => durF_repl hd)
        rw [hsc] at hq
        have hlev := hdone.levels (by omega) (greedy_ord N L)
        have HSLEN := hide hdone.len
        have hdm : ∀ x ∈ sched N L (fun _ => c) 16, x.d ∈ greedy N L := fun x hx => hdone.mem_ord HC.out.full (greedy_ord N L) hx
        have hdlt : ∀ v ∈ greedy N L, v < N := (greedy_ok N L).lt
        have hq2 := levels_any24 (N : Int) A1 c1 (ofNs L)
        unfold LevRet at hq2
        have hlm : levelsM (N : Int) (ofNs L) = ((List.range N).map (levs L (greedy N L)), 0) := by
          unfold levelsM
          rw [orderM_good HC.out.basic (by rw [toNs_ofNs]; exact HC.out.full), toNs_ofNs, if_pos rfl, Int.toNat_natCast]
        rw [HLL.out, hlm] at hq2
        generalize sched N L (fun _ => c) 16 = S at hq hlev HSLEN hdm
        have hlb : ∀ v, levs L (greedy N L) v ≤ 131072 := fun v => levs_bound (by omega) (by have := HC.out.full; omega) v
        generalize levs L (greedy N L) = lv at hlev hq2 hlb
        have HLEV := hide hlev
        have HDM := hide hdm
        have HDL := hide hdlt
        have HLB := hide hlb
        clear hfa hsch HFA HM hfr hdone hsc hlm hlev hdm hdlt hlb
        go_wp2_with fail
        refine hq.mono ?_
        clear hq
        rintro e w4 ⟨v4, rfl, hown4, hf4⟩
        obtain ⟨A4, c4, rfl, -, hrow4, -⟩ := own_slice hown4
        have HS4 := hide hrow4
        have hw4 := hw3.call hf4
        have hq := hq2 w4 (HG3.out.fr0 hf4) (by have := HLL.out; omega)
        clear hrow4 hown4 HG3 HV3 hf4 hq2
        go_wp2_with fail
        refine hq.mono ?_
        clear hq
        rintro e w5 ⟨v5, rfl, hown5, hf5⟩
        simp only [List.length_map, List.length_range] at hown5 ⊢
        obtain ⟨A5, c5, rfl, -, hrow5, -⟩ := own_slice hown5
        have HT5 := hide hrow5
        have HS5 := hide (HS4.out.fr0 hf5)
        have hw5 := hw4.call hf5
        have hne1 : ((S.length : Int) != (N : Int)) = false := by simp [HSLEN.out]
        have hne2 : ((N : Int) != (N : Int)) = false := by simp
        clear hrow5 hown5 HS4 hf5
        go_wp2
        go_loopg [15] N (fun m i wq => FlRel2 w5 N m i wq)
        case atStart => exact ⟨0, by omega, rfl, Fr.refl _ _, rfl⟩
        case round =>
          clear hkl hk
          obtain ⟨k, hk, rfl, hfr, hmm⟩ := hrel
          have HM := hide hmm
          clear hmm
          by_cases hlt : k < N
          · obtain ⟨x, hx⟩ : ∃ x, S[k]? = some x := ⟨_, List.getElem?_eq_getElem (by have := HSLEN.out; omega)⟩
            obtain ⟨ob, oo, e, x0, -, x2, -⟩ := (HS5.out.fr0 hfr).slt hx
            subst e
            have hxm := List.mem_of_getElem? hx
            have hxo := HDM.out x hxm
            have hdN := HDL.out _ hxo
            have hxs := HLEV.out _ hxo x hxm rfl
            obtain ⟨ob2, oo2, e, y0⟩ := (HT5.out.fr0 hfr).at_ (i := x.d) (u := nv (lv x.d)) (by simp [hdN])
            subst e
            have hkl : (k : Int) < (N : Int) := by omega
            have hk2 : (k : Int) < (S.length : Int) := by rw [HSLEN.out]; omega
            have hdi : (x.d : Int) < (N : Int) := by omega
            have hdi2 : decide ((N : Int) ≤ (x.d : Int)) = false := by simp; omega
            have hdi3 : decide (N ≤ x.d) = false := by simp; omega
            have hb1 := HLB.out x.d
            rw [hxs] at x2
            generalize x.d = d' at x0 x2 y0 hdi hdi2 hdi3 hb1
            generalize lv d' = v' at x2 y0 hb1
            have hm1 : v' * c ≤ 131072 * 20 := Nat.mul_le_mul hb1 hcb.2
            have p0 : 0 ≤ (v' : Int) * (c : Int) := by rw [← Int.natCast_mul]; omega
            have p1 : (v' : Int) * (c : Int) ≤ 2621440 := by rw [← Int.natCast_mul]; omega
            rw [Int.natCast_mul] at x2
            have eb : ((v' : Int) * (c : Int) != (v' : Int) * (c : Int)) = false := by simp
            have p0' := p0
            have p1' := p1
            have eb' := eb
            have eb2 : ((v' : Int) * (c : Int) != (v' : Int) * (1 + (xx : Int) % 20)) = false := by rw [hci]; simp
            rw [← hci] at p0' p1' eb'
            have hvb : (v' : Int) ≤ 131072 := by omega
            have hd0 : decide ((d' : Int) < 0) = false := decide_eq_false (by omega)
            have hv0 : decide ((v' : Int) < 0) = false := decide_eq_false (by omega)
            clear hx hxm hxo hxs hm1
            go_wp2
            go_quiet (fail)
            go_wp2
            go_roundg (N - (k + 1))
            case measure => rw [HM.out]; omega
            case rel => exact ⟨k + 1, by omega, by go_num, hfr.drewN _, rfl⟩
          · have hkl : ¬ (k : Int) < (N : Int) := by omega
            go_wp2_with fail
            refine (awake31_any _).mono ?_
            rintro e w9 ⟨rfl, hf9⟩
            go_wp2
            go_ret
            exact ⟨rfl, (hw5.call hfr).call hf9⟩

theorem followsLevels_walk' (n : Int) (A : Option Addr) (cp : Nat) (raw : List (Int × Int)) (f : Int) (hf : (Lit.int .u64 f).wf = true) (w : World) (hr : Row w A (pcs raw)) (hm : raw.length ≤ maxLen) :
    Calls Try.prog 11 #[.int .i64 n, .slice A raw.length cp, .int .u64 f] w fun e w' => e = .returned (.bool true) ∧ Fr [] w w' := by
  simp only [Lit.wf, Bool.and_eq_true, decide_eq_true_eq] at hf
  have h0 : 0 ≤ f := hf.1
  have h1 : f ≤ 18446744073709551615 := hf.2
  obtain ⟨k, rfl⟩ := Int.eq_ofNat_of_zero_le h0
  exact followsLevels_walk n A cp raw k (by omega) w hr hm
end Go.Proofs.Ytinengemeppefaa
