/- The law SuspendFirstErrorIsResult, walked. -/
import Derived.Test.YtgbkgiglagfciaaSuspW10
namespace Go.Proofs.Ytgbkgiglagfciaa
open Go.RowKit

def DownRel (w : World) (b : Nat) (o : List Nat) (m : Nat) (v : Value) (wr : World) : Prop :=
  ∃ k : Nat, k ≤ 4 * o.length ∧ v = .int .i64 k ∧ DnAt wr b o k ∧ Fr [] w wr ∧ m = 4 * o.length - k
def FirstRel (w : World) (b : Nat) (o : List Nat) (m : Nat) (v8 v9 : Value) (wr : World) : Prop :=
  ∃ (i : Nat) (c : Int), i ≤ 4 * o.length ∧ v8 = .int .i64 c ∧ v9 = .int .i64 i ∧ UnAt wr b ((fullUp o).drop i) c ∧ Fr [] w wr ∧ m = 4 * o.length - i

set_option maxHeartbeats 4000000 in
set_option maxRecDepth 100000 in
theorem first_walk (A B : Option Addr) (cp cq : Nat) (raw res : List Int) (w : World) (hr : Row w A (raw.map (Value.int .i64))) (hs : Row w B (res.map (Value.int .i64))) (hm : raw.length ≤ maxLen) (hm2 : res.length ≤ maxLen) :
    Calls Try.prog 6 #[.slice A raw.length cp, .slice B res.length cq] w fun e w' => e = .returned (.bool true) ∧ Fr [] w w' := by
  unfold maxLen at hm hm2
  have HR := hide hr
  have HS := hide hs
  clear hr hs
  by_cases h20 : 20 < raw.length ∨ 60 < res.length
  · have hb : (decide ((20 : Int) < (raw.length : Int)) = true) ∨ (decide ((20 : Int) < (raw.length : Int)) = false ∧ decide ((60 : Int) < (res.length : Int)) = true) := by simp; omega
    clear h20
    rcases hb with hb | ⟨hb, hb2⟩
    all_goals
      go_enter Try.func6, Try.ntmps6
      go_wp2_with fail
      refine (awake30_any w).mono ?_
      rintro e w1 ⟨rfl, hfr⟩
      go_wp2
      go_ret
      exact ⟨rfl, hfr⟩
  · have hb : decide ((20 : Int) < (raw.length : Int)) = false := by simp; omega
    have hb2 : decide ((60 : Int) < (res.length : Int)) = false := by simp; omega
    have h60 : res.length ≤ 60 := by omega
    have h20' : raw.length ≤ 20 := by omega
    clear h20 hm hm2
    go_enter Try.func6, Try.ntmps6
    go_wp2_with fail
    refine (order_any A cp raw w HR.out (by omega)).mono ?_
    rintro e w1 ⟨v1, rfl, hown1, hfr1⟩
    obtain ⟨A1, c1, rfl, hA1, hrow1, -⟩ := own_slice hown1
    have HA1 := hide hA1
    have HR1 := hide hrow1
    have hlen := ordR_length raw
    have HOK := hide (ordR_ok raw)
    have HN := hide (ordR_nodup raw)
    have HO := hide (ordR_okOrd raw)
    generalize ordR raw = o at hlen HOK HR1 HN HO ⊢
    have h7 : o.length ≤ 7 := by omega
    clear hlen hA1 hrow1 hown1
    go_wp2_with fail
    refine (new_ord A1 c1 o w1 HOK.out HR1.out HA1.out).mono ?_
    rintro e w2 ⟨b, rfl, hbg, hdn, hfr2⟩
    have hbw : w.heap.size ≤ b := Nat.le_trans hfr1.size hbg
    have hfr : Fr [] w w2 := hfr1.call hfr2
    have HD := hide hdn
    clear hdn hfr1 hfr2 hbg HR1 HA1
    go_wp2
    go_loopg [40] (4 * o.length) (fun m v wr => DownRel w b o m v wr)
    case atStart => exact ⟨0, by omega, rfl, HD.out, hfr, rfl⟩
    case round =>
      obtain ⟨k, hk, rfl, hdn, hfk, hmm⟩ := hrel
      have HM := hide hmm
      have HDK := hide hdn
      clear hmm hdn
      by_cases hlt : k < 4 * o.length
      · have hkb : decide ((k : Int) < 4 * (o.length : Int)) = true := by simp; omega
        go_wp2_with fail
        refine (dn_complete HDK.out hlt).mono ?_
        rintro e w3 ⟨rfl, hdn3, hfr3⟩
        have HD3 := hide hdn3
        clear hdn3
        go_wp2
        go_roundg (4 * o.length - (k + 1))
        case measure => rw [HM.out]; omega
        case rel => exact ⟨k + 1, by omega, by go_num, HD3.out, hfk.call' hfr3 hbw, rfl⟩
      · have hke : k = 4 * o.length := by omega
        have hkb : decide ((k : Int) < 4 * (o.length : Int)) = false := by simp; omega
        have HKE := hide hke
        clear hke hlt hk
        go_wp2_with fail
        have hsl := dn_asleep HDK.out
        have hdd : decide (k = 4 * o.length) = true := by simpa using HKE.out
        rw [hdd] at hsl
        clear hdd
        refine hsl.mono ?_
        clear hsl
        rintro e w3 ⟨rfl, rfl⟩
        go_wp2_with fail
        refine (dn_wake HDK.out HN.out HKE.out).mono ?_
        rintro e w3 ⟨rfl, hun, hfr3⟩
        rw [HKE.out, undoPlan_full HN.out HO.out] at hun
        have hf3 : Fr [] w w3 := hfk.call' hfr3 hbw
        have HU := hide hun
        clear hun hfr3 hfk HKE hkb HDK HD
        go_wp2
        go_loopg [8, 9] (4 * o.length) (fun m v8 v9 wr => FirstRel w b o m v8 v9 wr)
        case atStart => exact ⟨0, 0, by omega, rfl, rfl, HU.out, hf3, rfl⟩
        case round =>
          obtain ⟨i, c, hi, rfl, rfl, hun, hfi, hmm⟩ := hrel
          have HMI := hide hmm
          clear hmm HU hf3
          by_cases hlt : i < 4 * o.length
          · have hkb : decide ((i : Int) < 4 * (o.length : Int)) = true := by simp; omega
            obtain ⟨x, hx⟩ : ∃ x, (fullUp o).drop i = x :: (fullUp o).drop (i + 1) := ⟨_, List.drop_eq_getElem_cons (by rw [fullUp_length]; exact hlt)⟩
            rw [hx] at hun
            have HUI := hide hun
            clear hun hx
            by_cases hri : i < res.length
            · have hrb : decide ((i : Int) < (res.length : Int)) = true := by simp; omega
              have hget : (res.map (Value.int .i64))[i]? = some (.int .i64 res[i]) := by simp [hri]
              obtain ⟨ob, oo, rfl, hcc⟩ := (HS.out.fr0 hfi).at_ hget
              generalize res[i] = r at hcc
              clear hget
              go_wp2_with fail
              refine (un_result HUI.out).mono ?_
              rintro e w4 ⟨rfl, rfl⟩
              go_wp2_with fail
              refine (un_complete r HUI.out).mono ?_
              rintro e w4 ⟨rfl, hun4, hfr4⟩
              have hf4 := hfi.call' hfr4 hbw
              clear hfr4 hfi hcc
              by_cases hc0 : c = 0
              · subst hc0
                rw [if_pos rfl] at hun4
                have HU4 := hide hun4
                clear hun4
                go_wp2
                go_roundg (4 * o.length - (i + 1))
                case measure => rw [HMI.out]; omega
                case rel => exact ⟨i + 1, r, by omega, rfl, by go_num, HU4.out, hf4, rfl⟩
              · rw [if_neg hc0] at hun4
                have HU4 := hide hun4
                have hcb : (c == 0) = false := by simpa using hc0
                clear hun4
                go_wp2
                go_roundg (4 * o.length - (i + 1))
                case measure => rw [HMI.out]; omega
                case rel => exact ⟨i + 1, c, by omega, rfl, by go_num, HU4.out, hf4, rfl⟩
            · have hrb : decide ((i : Int) < (res.length : Int)) = false := by simp; omega
              go_wp2_with fail
              refine (un_result HUI.out).mono ?_
              rintro e w4 ⟨rfl, rfl⟩
              go_wp2_with fail
              refine (un_complete 0 HUI.out).mono ?_
              rintro e w4 ⟨rfl, hun4, hfr4⟩
              have hf4 := hfi.call' hfr4 hbw
              clear hfr4 hfi
              by_cases hc0 : c = 0
              · subst hc0
                rw [if_pos rfl] at hun4
                have HU4 := hide hun4
                clear hun4
                go_wp2
                go_roundg (4 * o.length - (i + 1))
                case measure => rw [HMI.out]; omega
                case rel => exact ⟨i + 1, 0, by omega, rfl, by go_num, HU4.out, hf4, rfl⟩
              · rw [if_neg hc0] at hun4
                have HU4 := hide hun4
                have hcb : (c == 0) = false := by simpa using hc0
                clear hun4
                go_wp2
                go_roundg (4 * o.length - (i + 1))
                case measure => rw [HMI.out]; omega
                case rel => exact ⟨i + 1, c, by omega, rfl, by go_num, HU4.out, hf4, rfl⟩
          · have hkb : decide ((i : Int) < 4 * (o.length : Int)) = false := by simp; omega
            rw [List.drop_eq_nil_of_le (by rw [fullUp_length]; omega)] at hun
            have HUI := hide hun
            clear hun
            go_wp2_with fail
            refine (un_result0 HUI.out).mono ?_
            rintro e w4 ⟨rfl, rfl⟩
            go_wp2_with fail
            refine (un_complete0 0 HUI.out).mono ?_
            rintro e w4 ⟨rfl, -, hfr4⟩
            have hf4 := hfi.call' hfr4 hbw
            clear hfr4 hfi
            go_wp2_with fail
            refine (awake30_any _).mono ?_
            rintro e w5 ⟨rfl, hfr5⟩
            go_wp2
            go_ret
            exact ⟨rfl, hf4.call hfr5⟩
end Go.Proofs.Ytgbkgiglagfciaa
