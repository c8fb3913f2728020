/- The law ResumeMoreWorkersOnIndependentDevices, walked. -/
import Derived.Test.YtinengemeppefaaSchL6
namespace Go.Proofs.Ytinengemeppefaa
open Go.RowKit

theorem wrap_i64 {x : Int} (h : -9223372036854775808 ≤ x) (k : x ≤ 9223372036854775807) : IntKind.i64.wrap x = x := by
  simp [IntKind.wrap, IntKind.signed, IntKind.bits]
  omega
theorem ceil_mono {N V : Nat} (hV : 0 < V) : (N + (V + 1) - 1) / (V + 1) ≤ (N + V - 1) / V := by
  cases N with
  | zero => rw [Nat.div_eq_of_lt (show 0 + (V + 1) - 1 < V + 1 by omega)]; exact Nat.zero_le _
  | succ n =>
    rw [show n + 1 + (V + 1) - 1 = n + (V + 1) by omega, show n + 1 + V - 1 = n + V by omega, Nat.add_div_right _ (by omega), Nat.add_div_right _ hV]
    have : n / (V + 1) ≤ n / V := Nat.div_le_div_left (by omega) hV
    omega
set_option maxHeartbeats 8000000 in
set_option maxRecDepth 100000 in
theorem moreWorkers_walk (n workers : Int) (xx : Nat) (hxx : xx ≤ 18446744073709551615) (w : World) :
    Calls Try.prog 9 #[.int .i64 n, .int .i64 workers, .int .u64 (xx : Int)] w fun e w' => e = .returned (.bool true) ∧ Fr [] w w' := by
  go_enter Try.func9, Try.ntmps9
  go_wp2_with fail
  refine (mod_any n 40 _ (by omega) (by omega)).mono ?_
  rintro e w1 ⟨rfl, rfl⟩
  have hN := umod_lt n (n := 40) (by omega)
  generalize umod n 40 = N at hN ⊢
  go_wp2_with fail
  refine (mod_any workers 15 _ (by omega) (by omega)).mono ?_
  rintro e w1 ⟨rfl, rfl⟩
  have hu5 := umod_lt workers (n := 15) (by omega)
  obtain ⟨V, hV⟩ : ∃ V, V = 1 + umod workers 15 := ⟨_, rfl⟩
  have hVi : (1 : Int) + (umod workers 15 : Int) = (V : Int) := by omega
  have hV5 : 1 ≤ V ∧ V ≤ 15 := by omega
  generalize umod workers 15 = um at hVi hu5 ⊢
  obtain ⟨c, hc⟩ : ∃ c, c = 1 + xx % 50 := ⟨_, rfl⟩
  have hcb : 1 ≤ c ∧ c ≤ 50 := by omega
  have hci : (1 : Int) + (xx : Int) % 50 = (c : Int) := by omega
  have hgok : GOk true N 0 40 [] := ⟨by simp, by simp, by simp, by simp⟩
  have hdur : ∀ x ∈ List.replicate N c, x ≤ maxD := fun x hx => by
    rw [(List.mem_replicate.1 hx).2]
    unfold maxD
    omega
  have HC := hide (case31 (W := V) (u := List.replicate N c) hgok (by omega) (by omega) (by simp) hdur)
  have HC2 := hide (case31 (W := V + 1) (u := List.replicate N c) hgok (by omega) (by omega) (by simp) hdur)
  have hmk := make_u64s N N (Nat.le_refl _) (by omega)
  have hnew : FA (w.alloc (.cells (Array.replicate N (.int .u64 0)) 33)) w.heap.size 33 uv N (fun _ => 0) := FA.new w 33 uv 0 N
  have hfr0 : Fr [] w (w.alloc (.cells (Array.replicate N (.int .u64 0)) 33)) := (Fr.refl _ _).alloc _
  clear hgok hdur hc hV
  go_wp2
  generalize (w.alloc (.cells (Array.replicate N (.int .u64 0)) 33)) = w2 at hnew hfr0 ⊢
  obtain ⟨g, hg⟩ : ∃ g, g = w.heap.size := ⟨_, rfl⟩
  have hgw : w.heap.size ≤ g := by omega
  rw [← hg] at hnew ⊢
  clear hg hmk hVi hu5
  go_loopg [10] N (fun m i wr => FlRel1 w g N c m i wr)
  case atStart => exact ⟨0, by omega, rfl, hnew.congr (fun i _ => by simp), hfr0, rfl⟩
  case round =>
    clear hnew hfr0
    obtain ⟨k, hk, rfl, hfa, hfr, hmm⟩ := hrel
    have HM := hide hmm
    have HFA := hide hfa
    clear hmm hfa
    by_cases hlt : k < N
    · have hkl : (k : Int) < (N : Int) := by omega
      have hc0 := HFA.out.cell hlt
      have hc1 := HFA.out.frozen k
      go_wp2
      go_roundg (N - (k + 1))
      case measure => rw [HM.out]; omega
      case rel =>
        refine ⟨k + 1, by omega, by go_num, ?_, hfr.set (.inr hgw) _, rfl⟩
        refine FA.congr (HFA.out.set_ k c) (fun j _ => ?_)
        by_cases e : j = k
        · rw [if_pos e, if_pos (by omega)]
        · rw [if_neg e]
          by_cases e2 : j < k
          · rw [if_pos e2, if_pos (by omega)]
          · rw [if_neg e2, if_neg (by omega)]
    · have hkl : ¬ (k : Int) < (N : Int) := by omega
      have hfa := (HFA.out.congr (f' := fun _ => c) (fun i hi => if_pos (by omega))).row
      rw [List.map_const', List.length_range] at hfa
      have HV3 := hide hfa
      have hsch := HC.out.sch
      have hsch2 := HC2.out.sch
      rw [sched_congr (D' := fun _ => c) (fun d hd => durF_repl hd), many_sched (by omega) (by omega)] at hsch hsch2
      have hq := schedule31_any (N : Int) (V : Int) none (some ⟨g, 0, none⟩) 0 N [] (List.replicate N c) wr (Row.nil _ _) HV3.out (by simp)
      rw [List.length_replicate] at hq
      have hq2 := schedule31_any (N : Int) ((V + 1 : Nat) : Int) none (some ⟨g, 0, none⟩) 0 N [] (List.replicate N c)
      rw [List.length_replicate] at hq2
      rw [show ofNs ([] : List (Nat × Nat)) = [] from rfl] at hsch hsch2
      rw [hsch] at hq
      rw [hsch2] at hq2
      have hsp1 := many_span (N := N) (c := c) (W := V) (by omega)
      have hsp2 := many_span (N := N) (c := c) (W := V + 1) (by omega)
      have hmono := ceil_mono (N := N) (V := V) (by omega)
      have hQ : (N + V - 1) / V ≤ 60 := Nat.le_trans (Nat.div_le_self _ _) (by omega)
      have hdivI : ((N : Int) + (V : Int) - 1).tdiv (V : Int) = (((N + V - 1) / V : Nat) : Int) := by
        rw [show (N : Int) + (V : Int) - 1 = ((N + V - 1 : Nat) : Int) by omega]
        exact (Int.ofNat_tdiv _ _).symm
      have hl1 : (rowS V c N).length = N := by simp [rowS]
      have hl2 : (rowS (V + 1) c N).length = N := by simp [rowS]
      generalize (N + (V + 1) - 1) / (V + 1) = Q2 at hsp2 hmono
      generalize (N + V - 1) / V = Q1 at hsp1 hmono hQ hdivI
      have hm1 : Q1 * c ≤ 60 * 50 := Nat.mul_le_mul hQ hcb.2
      have hm2 : Q2 * c ≤ Q1 * c := Nat.mul_le_mul_right _ hmono
      obtain ⟨z, hz⟩ : ∃ z : Int, z = ((V + 1 : Nat) : Int) := ⟨_, rfl⟩
      have hVi2 : (V : Int) + 1 = z := by omega
      rw [← hz] at hq2
      clear hz
      have HL1 := hide hl1
      have HL2 := hide hl2
      have HSP1 := hide hsp1
      have HSP2 := hide hsp2
      generalize rowS V c N = S at hq HL1 HSP1
      generalize rowS (V + 1) c N = S2 at hq2 HL2 HSP2
      clear hfa hsch hsch2 HFA HM hsp1 hsp2 hl1 hl2
      go_wp2_with fail
      refine hq.mono ?_
      clear hq
      rintro e w4 ⟨v4, rfl, hown4, hf4⟩
      obtain ⟨A4, c4, rfl, -, hrow4, -⟩ := own_slice hown4
      have HS4 := hide hrow4
      have hw4 := hfr.call hf4
      have hq := hq2 w4 (Row.nil _ _) (HV3.out.fr0 hf4) (by simp)
      clear hrow4 hown4 HV3 hf4 hq2 hfr
      go_wp2_with fail
      refine hq.mono ?_
      clear hq
      rintro e w5 ⟨v5, rfl, hown5, hf5⟩
      obtain ⟨A5, c5, rfl, -, hrow5, -⟩ := own_slice hown5
      have HS5 := hide (HS4.out.fr0 hf5)
      have HT5 := hide hrow5
      have hw5 := hw4.call hf5
      clear hrow5 hown5 HS4 hf5 hw4 hVi2
      have HMX : Hid (∀ (X : Option Addr) (cx : Nat) (Y : List Slt) (wq : World), Row w5 X (scells Y) → Y.length ≤ 4096 → Fr [] w5 wq → Calls Try.prog 21 #[.slice X Y.length cx] wq fun e w' => e = .returned (.int .u64 (mkspan Y : Int)) ∧ Fr [] wq w') := hide (fun X cx Y wq hX hl hq => by
        have h := makespan31_any X cx (Y.map toR) wq (by rw [rcells_toR]; exact hX.fr0 hq) (by simpa using hl)
        rw [List.length_map, mkR_toR] at h
        exact h)
      have e1 : (((Q1 * c : Nat)) : Int) = (Q1 : Int) * (c : Int) := by simp
      have p1 : (Q1 : Int) * (c : Int) ≤ 3000 := by rw [← e1]; omega
      have p0 : 0 ≤ (Q1 : Int) * (c : Int) := by rw [← e1]; omega
      have hle : decide ((mkspan S2 : Int) ≤ (mkspan S : Int)) = true := decide_eq_true (by rw [HSP1.out, HSP2.out]; omega)
      have hle2 : decide (mkspan S2 ≤ mkspan S) = true := decide_eq_true (by rw [HSP1.out, HSP2.out]; omega)
      have eb : ((mkspan S : Int) == (Q1 : Int) * (c : Int)) = true := by rw [HSP1.out, e1]; simp
      have eb2 : decide ((mkspan S : Int) = (Q1 : Int) * (c : Int)) = true := by rw [HSP1.out, e1]; simp
      have eb3 : ((Q1 : Int) * (c : Int) == (Q1 : Int) * (c : Int)) = true := by simp
      have hV1 : (1 : Int) ≤ (V : Int) := by omega
      have hQ1 : (Q1 : Int) ≤ 60 := by omega
      have hls : S.length ≤ 4096 ∧ S2.length ≤ 4096 := ⟨by rw [HL1.out]; omega, by rw [HL2.out]; omega⟩
      have HLS := hide hls
      have q0 : ((V : Int) == 0) = false := by simp; omega
      have q1 : ¬ (V : Int) = 0 := by omega
      have q2 : ¬ V = 0 := by omega
      have s1 : IntKind.i64.wrap ((N : Int) + (V : Int)) = (N : Int) + (V : Int) := wrap_i64 (by omega) (by omega)
      have s2 : IntKind.i64.wrap ((N : Int) + (V : Int) - 1) = (N : Int) + (V : Int) - 1 := wrap_i64 (by omega) (by omega)
      have s3 : IntKind.i64.wrap (((N : Int) + (V : Int) - 1).tdiv (V : Int)) = (Q1 : Int) := by rw [hdivI]; exact wrap_i64 (by omega) (by omega)
      have s4 : IntKind.u64.wrap (Q1 : Int) = (Q1 : Int) := by rw [wrap_u64]; omega
      have s9 : IntKind.i64.wrap (Q1 : Int) = (Q1 : Int) := wrap_i64 (by omega) (by omega)
      have s10 : IntKind.u64.wrap (c : Int) = (c : Int) := by rw [wrap_u64]; omega
      have s5 : (xx : Int).tmod 50 = (xx : Int) % 50 := Int.tmod_eq_emod_of_nonneg (by omega)
      have s6 : IntKind.u64.wrap ((xx : Int) % 50) = (xx : Int) % 50 := by rw [wrap_u64]; omega
      have s7 : IntKind.u64.wrap (1 + (xx : Int) % 50) = (c : Int) := by rw [wrap_u64]; omega
      have s8 : IntKind.u64.wrap ((Q1 : Int) * (c : Int)) = (Q1 : Int) * (c : Int) := by rw [wrap_u64]; omega
      clear e1 hm1 hm2 hmono hQ hls
      go_wp2
      go_region_held3 (fun _ => True) (exact trivial) (first | (go_at_call 21; refine (HMX.out _ _ _ _ (by first | exact HS5.out | exact HT5.out) (by first | exact HLS.out.1 | exact HLS.out.2) (by repeat (first | exact Fr.refl _ _ | refine Fr.drew ?_ | refine Fr.drewN ?_ _ | refine Fr.trans ?_ (by assumption)))).mono ?_; rintro e w6 ⟨rfl, hf6⟩) | (go_at_call 12; refine (awake31_any _).mono ?_; rintro e w6 ⟨rfl, hf6⟩))
      all_goals
        go_wp2
        go_ret
        exact ⟨rfl, hw5.call (by repeat (first | exact Fr.refl _ _ | refine Fr.drew ?_ | refine Fr.drewN ?_ _ | refine Fr.trans ?_ (by assumption)))⟩

theorem moreWorkers_walk' (n workers : Int) (f : Int) (hf : (Lit.int .u64 f).wf = true) (w : World) :
    Calls Try.prog 9 #[.int .i64 n, .int .i64 workers, .int .u64 f] w fun e w' => e = .returned (.bool true) ∧ Fr [] w w' := by
  simp only [Lit.wf, Bool.and_eq_true, decide_eq_true_eq] at hf
  have h0 : 0 ≤ f := hf.1
  have h1 : f ≤ 18446744073709551615 := hf.2
  obtain ⟨k, rfl⟩ := Int.eq_ofNat_of_zero_le h0
  exact moreWorkers_walk n workers k (by omega) w
end Go.Proofs.Ytinengemeppefaa
