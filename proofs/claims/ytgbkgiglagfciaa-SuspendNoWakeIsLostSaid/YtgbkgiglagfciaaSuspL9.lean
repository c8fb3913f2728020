/- The law SuspendNoWakeIsLost, walked. -/
import Derived.Test.YtgbkgiglagfciaaSuspL3
import Derived.Test.YtgbkgiglagfciaaWakW3
import Derived.Test.YtgbkgiglagfciaaWakP
namespace Go.Proofs.Ytgbkgiglagfciaa
open Go.RowKit

def NwRel (w : World) (c b : Nat) (o : List Nat) (s1 : WS) (K : Nat) (m : Nat) (v : Value) (wr : World) : Prop :=
  ∃ k : Nat, k ≤ K ∧ k ≤ 4 * o.length ∧ v = .int .i64 k ∧ DnAt wr b o k ∧ WsAt wr c s1 ∧ Fr [] w wr ∧ m = 4 * o.length - k
def NuRel (w : World) (b : Nat) (L : List (Nat × Nat)) (m : Nat) (v : Value) (wr : World) : Prop :=
  ∃ i : Nat, i ≤ L.length ∧ v = .int .i64 i ∧ UnAt wr b (L.drop i) 20 ∧ Fr [] w wr ∧ m = L.length - i
theorem WsAt.one {w : World} {c : Nat} {s : WS} (h : WsAt w c s) : ∃ t cs, Blk w c t cs ∧ t ≠ 3 := ⟨_, _, h, by decide⟩
set_option maxHeartbeats 8000000 in
set_option maxRecDepth 100000 in
theorem noWake_walk (A : Option Addr) (cp : Nat) (raw : List Int) (sources source at_ : Int) (kind : Nat) (hkind : kind ≤ 255) (w : World) (hr : Row w A (raw.map (Value.int .i64))) (hm : raw.length ≤ maxLen) :
    Calls Try.prog 11 #[.slice A raw.length cp, .int .i64 sources, .int .i64 source, .int .i64 at_, .int .u8 (kind : Int)] w fun e w' => e = .returned (.bool true) ∧ Fr [] w w' := by
  unfold maxLen at hm
  have HR := hide hr
  clear hr
  by_cases h20 : 20 < raw.length ∨ raw.length = 0
  · have hb : (decide ((20 : Int) < (raw.length : Int)) = true) ∨ (decide ((20 : Int) < (raw.length : Int)) = false ∧ ((raw.length : Int) == 0) = true) := by
      by_cases g1 : 20 < raw.length
      · exact .inl (by simp; omega)
      · exact .inr ⟨by simp; omega, beq_iff_eq.2 (by omega)⟩
    clear h20
    rcases hb with hb | ⟨hb, hb2⟩
    all_goals
      go_enter Try.func11, Try.ntmps11
      go_wp2_with fail
      refine (awake30_any w).mono ?_
      rintro e w1 ⟨rfl, hfr⟩
      go_wp2
      go_ret
      exact ⟨rfl, hfr⟩
  have hb : decide ((20 : Int) < (raw.length : Int)) = false := by simp; omega
  have hb2 : ((raw.length : Int) == 0) = false := beq_eq_false_iff_ne.2 (by omega)
  have h20' : raw.length ≤ 20 := by omega
  have h0' : 0 < raw.length := by omega
  clear h20 hm
  go_enter Try.func11, Try.ntmps11
  go_wp2_with fail
  refine (order_any A cp raw w HR.out (by omega)).mono ?_
  rintro e w1 ⟨v1, rfl, hown1, hfr1⟩
  obtain ⟨A1, c1, rfl, hA1, hrow1, -⟩ := own_slice hown1
  have HA1 := hide hA1
  have HR1 := hide hrow1
  have hlen := ordR_length raw
  have HOK := hide (ordR_ok raw)
  have HN := hide (ordR_nodup raw)
  have HO := hide (ordR_okOrd raw)
  generalize ordR raw = o at hlen HOK HR1 HN HO ⊢
  have h7 : o.length ≤ 7 := by omega
  have h1 : 0 < o.length := by omega
  clear hlen hA1 hrow1 hown1
  go_wp2_with fail
  refine (mod_any sources 5 _ (by omega) (by omega)).mono ?_
  rintro e w2 ⟨rfl, rfl⟩
  have hu5 := umod_lt sources (n := 5) (by omega)
  obtain ⟨n, hn⟩ : ∃ n, n = 1 + umod sources 5 := ⟨_, rfl⟩
  have hni : (1 : Int) + (umod sources 5 : Int) = (n : Int) := by omega
  have hn5 : 1 ≤ n ∧ n ≤ 5 := by omega
  generalize umod sources 5 = um at hni hu5 ⊢
  clear hn
  go_wp2_with fail
  refine (wnew_any n (by omega) w1).mono ?_
  rintro e w2 ⟨rfl, hws2, hfr2⟩
  obtain ⟨c, hc⟩ : ∃ c, c = w1.heap.size := ⟨_, rfl⟩
  have hcw : w.heap.size ≤ c := by rw [hc]; exact hfr1.size
  rw [← hc] at hws2 ⊢
  have hf02 := hfr1.call hfr2
  have HW2 := hide hws2
  have HR2 := hide (HR1.out.fr0 hfr2)
  clear hc hws2 hfr1 hfr2 HR1 hu5 hni
  go_wp2_with fail
  refine (new_ord A1 c1 o w2 HOK.out HR2.out HA1.out).mono ?_
  rintro e w3 ⟨b, rfl, hbg, hdn3, hfr3⟩
  have hbw : w.heap.size ≤ b := Nat.le_trans hf02.size hbg
  have hf03 := hf02.call hfr3
  have hcb : c ≠ b := by have := HW2.out.lt; omega
  have HCB := hide hcb
  have HW3 := hide (HW2.out.fr0 hfr3)
  have HD3 := hide hdn3
  clear hbg hdn3 hfr3 HW2 hf02 hcb HR2 HA1
  go_wp2_with fail
  refine (wcounts_any HW3.out).mono ?_
  rintro e w4 ⟨rfl, hf4⟩
  rw [show (ws0 n).ev = 0 from rfl, show cntM (ws0 n) 32 = 0 from quiet_cnt (fun _ => rfl) 32]
  have HW4 := hide (HW3.out.fr0 hf4)
  have HD4 := hide (HD3.out.fr0 hf4)
  have hf04 := hf03.call hf4
  have hQ : Q0 { advM 0 (ws0 n) with ar := true, rm := 0 } n := q0_arm n
  have hcn : cntM (advM 0 (ws0 n)) 32 = 0 := quiet_cnt hQ.na 32
  have hev : (advM 0 (ws0 n)).ev = 0 := hQ.ev
  clear HW3 HD3 hf4 hf03
  go_wp2_with fail
  refine (warm_ok (now := 0) (ev := 0) HW4.out (Nat.le_refl _) (by omega) (show n ≤ 32 by omega) (show 0 ≤ 1000 by omega) hev hcn).mono ?_
  rintro e w5 ⟨rfl, hw5, hfr5⟩
  generalize ({ advM 0 (ws0 n) with ar := true, rm := 0 } : WS) = s1 at hQ hw5
  have HQ := hide hQ
  have HW5 := hide hw5
  have HD5 := hide (HD4.out.fr hfr5 (not_one (Ne.symm HCB.out)) (one_blk HW4.out.one))
  have hf05 := hf04.call' hfr5 hcw
  clear hQ hw5 hfr5 HW4 HD4 hf04 hcn hev
  go_wp2_with fail
  refine (mod_any at_ (5 * o.length) _ (by omega) (by omega)).mono ?_
  rintro e w6 ⟨rfl, rfl⟩
  have hB := umod_lt at_ (n := 5 * o.length) (by omega)
  generalize umod at_ (5 * o.length) = B at hB ⊢
  obtain ⟨K, hK⟩ : ∃ K, K = if 4 * o.length ≤ B then 8 * o.length else B := ⟨_, rfl⟩
  have hK8 : K < 4 * o.length ∨ K = 8 * o.length := by rw [hK]; split <;> omega
  go_upto_if 91 with (fail)
  go_cut [19] (fun v wx => v = .int .i64 (K : Int) ∧ w5 = wx)
  case first =>
    by_cases hc : 4 * o.length ≤ B
    · rw [if_pos hc] at hK
      have hKi : 8 * (o.length : Int) = (K : Int) := by omega
      have b1 : decide (4 * (o.length : Int) ≤ (B : Int)) = true := decide_eq_true (by omega)
      have b2 : decide (4 * o.length ≤ B) = true := decide_eq_true hc
      have hbi : 4 * (o.length : Int) ≤ (B : Int) := by omega
      clear hK
      go_wp2
      go_meet
      exact ⟨rfl, rfl⟩
    · rw [if_neg hc] at hK
      have b1 : decide (4 * (o.length : Int) ≤ (B : Int)) = false := decide_eq_false (by omega)
      have b2 : decide (4 * o.length ≤ B) = false := decide_eq_false hc
      have hbi : ¬ 4 * (o.length : Int) ≤ (B : Int) := by omega
      subst hK
      go_wp2
      go_meet
      exact ⟨rfl, rfl⟩
  case rest =>
    obtain ⟨rfl, rfl⟩ := hcut
    clear hK hB
    go_wp2
    go_loopg [20] (4 * o.length) (fun m v wr => NwRel w c b o s1 K m v wr)
    case atStart => exact ⟨0, by omega, by omega, rfl, HD5.out, HW5.out, hf05, rfl⟩
    case round =>
      obtain ⟨k, hk, hk4, rfl, hdk, hwk, hfk, hmm⟩ := hrel
      have HM := hide hmm
      have HDK := hide hdk
      have HWK := hide hwk
      clear hmm hdk hwk HD5 HW5 hf05
      by_cases hlt : k < K
      · have hb3 : ((k : Int) == (K : Int)) = false := beq_eq_false_iff_ne.2 (by omega)
        by_cases h4 : k < 4 * o.length
        · have hz : k ≠ 4 * o.length := by omega
          go_wp2_with fail
          refine (dn_asleep HDK.out).mono ?_
          rintro e w6 ⟨rfl, rfl⟩
          rw [decide_eq_false hz]
          go_wp2_with fail
          refine (wmust_any HWK.out).mono ?_
          rintro e w6 ⟨rfl, hf6⟩
          rw [show mustM s1 = false from must_no HQ.out]
          have HW6 := hide (HWK.out.fr0 hf6)
          have HD6 := hide (HDK.out.fr0 hf6)
          have hfw6 := hfk.call hf6
          clear hf6 hfk HWK HDK
          go_wp2_with fail
          refine (dn_next HD6.out h4).mono ?_
          rintro e w7 ⟨rfl, hf7⟩
          have hfa := hf7.alloc (.cells #[nv (opAt o k).1, nv (opAt o k).2] 30)
          have HW7 := hide (HW6.out.fr0 hfa)
          have HD7 := hide (HD6.out.fr0 hfa)
          have hfw7 := hfw6.call hfa
          generalize opAt o k = q at HW7 HD7 hfw7 hfa ⊢
          clear hf7 hfw6 HW6 HD6 hfa
          go_wp2_with fail
          refine (dn_complete HD7.out h4).mono ?_
          rintro e w8 ⟨rfl, hd8, hf8⟩
          have HD8 := hide hd8
          have HW8 := hide (HW7.out.fr hf8 (not_one HCB.out))
          have hfw8 := hfw7.call' hf8 hbw
          clear hd8 hf8 hfw7 HW7 HD7
          go_wp2
          go_roundg (4 * o.length - (k + 1))
          case measure => rw [HM.out]; omega
          case rel => exact ⟨k + 1, by omega, by omega, by go_num, HD8.out, HW8.out, hfw8, rfl⟩
        · have hz : k = 4 * o.length := by omega
          have hgt : decide ((k : Int) < (K : Int)) = true := decide_eq_true (by omega)
          have hgt2 : decide (k < K) = true := decide_eq_true hlt
          go_wp2_with fail
          refine (dn_asleep HDK.out).mono ?_
          rintro e w6 ⟨rfl, rfl⟩
          rw [decide_eq_true hz]
          go_wp2_with fail
          refine (wmust_any HWK.out).mono ?_
          rintro e w6 ⟨rfl, hf6⟩
          rw [show mustM s1 = false from must_no HQ.out]
          go_wp2_with fail
          refine (awake30_any w6).mono ?_
          rintro e w7 ⟨rfl, hf7⟩
          go_wp2
          go_ret
          exact ⟨rfl, (hfk.call hf6).call hf7⟩
      · have hke : k = K := by omega
        subst hke
        have h4 : k < 4 * o.length := by omega
        have hb3 : ((k : Int) == (k : Int)) = true := by simp
        have hz : k ≠ 4 * o.length := by omega
        have hbb : ((k : Int) != (k : Int)) = false := by simp
        have hwr : IntKind.u64.wrap (k : Int) = (k : Int) := by rw [IntKind.wrap_u64]; omega
        obtain ⟨r, hr⟩ : ∃ r, r = kind % 3 := ⟨_, rfl⟩
        have hre : (kind : Int).tmod 3 = (r : Int) := by rw [Int.tmod_eq_emod_of_nonneg (by omega)]; omega
        have hr3 : r = 0 ∨ r = 1 ∨ r = 2 := by omega
        have hrw : IntKind.u8.wrap (r : Int) = (r : Int) := by simp [IntKind.wrap, IntKind.signed, IntKind.bits]; omega
        have hn32 : s1.n ≤ 32 := by rw [HQ.out.n]; omega
        have hev0 : s1.ev ≤ 900 := by rw [HQ.out.ev]; omega
        have hck : s1.ck ≤ k := by rw [HQ.out.ck]; omega
        have HADV := hide (quiet_adv (now := k) HQ.out.na HQ.out.al)
        have hna : ∀ q, (advM k s1).a q = false := fun q => by rw [HADV.out]; exact HQ.out.na q
        have hn2 : (advM k s1).n ≤ 32 := by rw [HADV.out]; exact hn32
        have hev2 : (advM k s1).ev ≤ 1000 := by rw [HADV.out]; exact Nat.le_trans hev0 (by omega)
        have HNA := hide hna
        clear hr hna
        go_wp2_with fail
        refine (mod_any source n _ (by omega) (by omega)).mono ?_
        rintro e w6 ⟨rfl, rfl⟩
        have hq := umod_lt source (n := n) (by omega)
        generalize umod source n = q at hq ⊢
        have hqn : q < s1.n := by rw [HQ.out.n]; exact hq
        rcases hr3 with rfl | rfl | rfl
        case' inl =>
          have b0 : (((0 : Nat) : Int) == 0) = true := rfl
          go_wp2_with fail
          refine (wactivate_ok HWK.out hqn hck (by omega) hn32 (by omega)).mono ?_
          rintro e w6 ⟨rfl, hw6, hf6⟩
          have hmu := must_act (now := k) HQ.out (k := q) (by omega)
          generalize relM { advM k s1 with a := upd (advM k s1).a q true } q = s6 at hw6 hmu
        case' inr.inl =>
          have b0 : (((1 : Nat) : Int) == 0) = false := rfl
          have b1 : (((1 : Nat) : Int) == 1) = true := rfl
          go_wp2_with fail
          refine (wpulse_ok HWK.out hqn hck (by omega) hn32 hev0 (HNA.out q) hn2 hev2).mono ?_
          rintro e w6 ⟨rfl, hw6, hf6⟩
          have hmu := must_pulse (now := k) HQ.out (k := q) hq
          generalize advM k { advM k s1 with a := upd (advM k s1).a q true, h := upd (advM k s1).h q true, t := upd (advM k s1).t q k } = s6 at hw6 hmu
        case' inr.inr =>
          have b0 : (((2 : Nat) : Int) == 0) = false := rfl
          have b1 : (((2 : Nat) : Int) == 1) = false := rfl
          go_wp2_with fail
          refine (walarm_ok (t := k) HWK.out (by omega) hck (by omega) hn32 hev0 hn2 hev2).mono ?_
          rintro e w6 ⟨rfl, hw6, hf6⟩
          have hmu := must_alarm (now := k) HQ.out
          generalize advM k { advM k s1 with al := true, at_ := k } = s6 at hw6 hmu
        all_goals
          have HMU := hide hmu
          have HW6 := hide hw6
          have HD6 := hide (HDK.out.fr hf6 (not_one (Ne.symm HCB.out)) (one_blk HWK.out.one))
          have hfw6 := hfk.call' hf6 hcw
          clear hmu hw6 hf6 hfk HWK HDK hre hrw hck hn32 hev0 hn2 hev2 hqn
          go_wp2_with fail
          refine (dn_asleep HD6.out).mono ?_
          rintro e w7 ⟨rfl, rfl⟩
          rw [decide_eq_false hz]
          go_wp2_with fail
          refine (wmust_any HW6.out).mono ?_
          rintro e w7 ⟨rfl, hf7⟩
          rw [show mustM s6 = true from HMU.out]
          have HD7 := hide (HD6.out.fr0 hf7)
          have hfw7 := hfw6.call hf7
          clear hf7 hfw6 HW6 HD6
          go_wp2_with fail
          refine (dn_abort HD7.out HN.out h4).mono ?_
          rintro e w8 ⟨rfl, hu8, hf8⟩
          have hLl : (undoPlan o (goodK o k)).length = k := by rw [undo_length HN.out HO.out, goodK_length (by omega)]
          generalize undoPlan o (goodK o k) = L at hLl hu8
          have HU8 := hide hu8
          have hfw8 := hfw7.call' hf8 hbw
          clear hu8 hf8 hfw7 HD7
          go_wp2
          go_loopg [163] L.length (fun m v wr => NuRel w b L m v wr)
          case atStart => exact ⟨0, by omega, rfl, HU8.out, hfw8, rfl⟩
          case round =>
            obtain ⟨i, hi, rfl, hui, hfi, hmi⟩ := hrel
            have HMI := hide hmi
            clear hmi HU8 hfw8
            by_cases hik : i < L.length
            · have hikk : (i : Int) < (k : Int) := by omega
              obtain ⟨x, hx⟩ : ∃ x, L.drop i = x :: L.drop (i + 1) := ⟨_, List.drop_eq_getElem_cons hik⟩
              rw [hx] at hui
              have HUI := hide hui
              clear hui hx
              go_wp2_with fail
              refine (un_next HUI.out).mono ?_
              rintro e w9 ⟨rfl, hf9⟩
              have hfa := hf9.alloc (.cells #[nv x.1, nv x.2] 30)
              have HU9 := hide (HUI.out.fr0 hfa)
              have hfw9 := hfi.call hfa
              clear hf9 hfi HUI hfa
              go_wp2_with fail
              refine (un_complete 0 HU9.out).mono ?_
              rintro e wa ⟨rfl, hua, hfa⟩
              rw [if_neg (by omega)] at hua
              have HUA := hide hua
              have hfwa := hfw9.call' hfa hbw
              clear hua hfa hfw9 HU9
              go_wp2
              go_roundg (L.length - (i + 1))
              case measure => rw [HMI.out]; omega
              case rel => exact ⟨i + 1, by omega, by go_num, HUA.out, hfwa, rfl⟩
            · have hikk : ¬ (i : Int) < (k : Int) := by omega
              rw [List.drop_eq_nil_of_le (by omega)] at hui
              have HUI := hide hui
              clear hui
              go_wp2_with fail
              refine (un_result0 HUI.out).mono ?_
              rintro e w9 ⟨rfl, rfl⟩
              go_wp2_with fail
              refine (awake30_any _).mono ?_
              rintro e wa ⟨rfl, hfa⟩
              go_wp2
              go_ret
              exact ⟨rfl, hfi.call hfa⟩
theorem noWake_walk' (A : Option Addr) (cp : Nat) (raw : List Int) (sources source at_ kind : Int) (hkind : (Lit.int .u8 kind).wf = true) (w : World) (hr : Row w A (raw.map (Value.int .i64))) (hm : raw.length ≤ maxLen) :
    Calls Try.prog 11 #[.slice A raw.length cp, .int .i64 sources, .int .i64 source, .int .i64 at_, .int .u8 kind] w fun e w' => e = .returned (.bool true) ∧ Fr [] w w' := by
  simp only [Lit.wf, Bool.and_eq_true, decide_eq_true_eq] at hkind
  have h0 : 0 ≤ kind := hkind.1
  have h1 : kind ≤ 255 := hkind.2
  obtain ⟨kind, rfl⟩ := Int.eq_ofNat_of_zero_le h0
  exact noWake_walk A cp raw sources source at_ kind (by omega) w hr hm
end Go.Proofs.Ytgbkgiglagfciaa
