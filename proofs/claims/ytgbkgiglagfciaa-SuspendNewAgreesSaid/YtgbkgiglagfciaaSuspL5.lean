/- The law SuspendNewAgrees, walked. -/
import Derived.Test.YtgbkgiglagfciaaSuspW10
import Derived.Test.YtgbkgiglagfciaaSuspR7
namespace Go.Proofs.Ytgbkgiglagfciaa
open Go.RowKit

theorem row_set {w : World} {base n cp : Nat} {A : Option Addr} {xs : List Value} {idx : Nat} (v : Value) (h : w.ownsRow base 3 1 (.slice A n cp) n xs) (hi : idx < n) :
    ∃ g u, A = some ⟨g, 0, none⟩ ∧ base ≤ g ∧ w.cell? ⟨g, idx, none⟩ = some u ∧ w.frozen? ⟨g, idx, none⟩ = false ∧ Row (w.setCell ⟨g, idx, none⟩ v) A (xs.set idx v) := by
  have hxl := h.1
  rcases h.2 with ⟨h0, h1⟩ | ⟨g, cap, cur, hv, hb, hh, hnc, _, hcur, hx⟩
  · omega
  · have hA : A = some ⟨g, 0, none⟩ := by injection hv
    have hbk : Blk w g 3 cur := hh
    have hic : idx < cur.size := by
      rw [hcur]; omega
    refine ⟨g, cur[idx], hA, hb, (hbk.cell idx).trans (Array.getElem?_eq_getElem hic), hbk.frozen idx, fun _ => ⟨g, 0, hA, fun i u hu => ?_⟩⟩
    refine ((hbk.set_ idx v).cell _).trans ?_
    rw [Nat.zero_add]
    rw [List.getElem?_set] at hu
    by_cases e : idx = i
    · subst e
      rw [if_pos rfl] at hu
      rw [Array.getElem?_setIfInBounds_self, if_pos hic]
      split at hu
      · exact hu
      · cases hu
    · rw [if_neg e] at hu
      rw [Array.getElem?_setIfInBounds_ne e]
      rw [← hx, List.getElem?_take] at hu
      split at hu
      · simpa using hu
      · cases hu

def ECode (l : List Int) : Int := if okB l then 0 else 1
theorem new_e (A : Option Addr) (cp : Nat) (l : List Int) (w : World) (hr : Row w A (l.map (Value.int .i64))) (hA : A = none → cp = 0) (hn : l.length ≤ 4096) :
    Calls Try.prog 18 #[.slice A l.length cp] w fun e w' => (∃ p, (okB l = false ∧ p = none ∨ okB l = true ∧ ∃ b, p = some (⟨b, 0, none⟩ : Addr)) ∧ e = .returned (.tuple #[.pointer p, .int .i64 (ECode l)])) ∧ Fr [] w w' := by
  refine (new_any A cp l w hr hA hn).mono ?_
  rintro e w1 (⟨hno, rfl, hfr⟩ | ⟨hy, b, rfl, hbg, hat, hfr⟩)
  · have h : okB l = false := by rw [← Bool.not_eq_true, okB_iff]; exact hno
    exact ⟨⟨none, .inl ⟨h, rfl⟩, by simp [ECode, h]⟩, hfr⟩
  · have h : okB l = true := okB_iff.2 hy
    exact ⟨⟨_, .inr ⟨h, b, rfl⟩, by simp [ECode, h]⟩, hfr⟩
theorem rnew_e (A : Option Addr) (cp : Nat) (l : List Int) (w : World) (hr : Row w A (l.map (Value.int .i64))) (hn : l.length ≤ 4096) :
    Calls Try.prog 19 #[.slice A l.length cp] w fun e w' => (∃ p, e = .returned (.tuple #[.pointer p, .int .i64 (ECode l)])) ∧ Fr [] w w' := by
  refine (rnew_any A cp l w hr hn).mono ?_
  rintro e w1 (⟨h, rfl, hfr⟩ | ⟨h, b, F, rfl, hbg, hat, hfr⟩)
  · exact ⟨⟨none, by simp [ECode, h]⟩, hfr⟩
  · exact ⟨⟨some ⟨b, 0, none⟩, by simp [ECode, h]⟩, hfr⟩

set_option maxHeartbeats 4000000 in
set_option maxRecDepth 100000 in
theorem newAgrees_walk (A : Option Addr) (cp : Nat) (raw : List Int) (k v : Int) (w : World) (hr : Row w A (raw.map (Value.int .i64))) (hA : A = none → cp = 0) (hm : raw.length ≤ maxLen) :
    Calls Try.prog 4 #[.slice A raw.length cp, .int .i64 k, .int .i64 v] w fun e w' => e = .returned (.bool true) ∧ Fr [] w w' := by
  unfold maxLen at hm
  have HR := hide hr
  have HA := hide hA
  clear hr hA
  by_cases h20 : 80 < raw.length
  · go_enter Try.func4, Try.ntmps4
    go_wp2_with fail
    refine (awake30_any w).mono ?_
    rintro e w1 ⟨rfl, hfr⟩
    go_wp2
    go_ret
    exact ⟨rfl, hfr⟩
  · have hb : decide ((80 : Int) < (raw.length : Int)) = false := by simp; omega
    have h80 : raw.length ≤ 80 := by omega
    clear h20 hm
    go_enter Try.func4, Try.ntmps4
    go_wp2_with fail
    refine (order_any A cp raw w HR.out (by omega)).mono ?_
    rintro e w1 ⟨v1, rfl, hown1, hfr1⟩
    obtain ⟨A1, c1, rfl, hA1, hrow1, -⟩ := own_slice hown1
    have HA1 := hide hA1
    have hlen := ordR_length raw
    generalize ordR raw = o at hlen hown1 hrow1 ⊢
    have h7 : o.length ≤ 7 := by omega
    have HR1 := hide hrow1
    have HOWN1 := hide hown1
    clear hlen hA1 hrow1 hown1
    by_cases hz : 0 < o.length
    case' pos =>
      have hzb : decide ((0 : Int) < (o.length : Int)) = true := by simp; omega
      have hu1 := umod_lt k hz
      have hu2 := umod_lt v (show 0 < o.length + 2 by omega)
      go_wp2_with fail
      refine (mod_any k o.length _ hz (by omega)).mono ?_
      rintro e w2 ⟨rfl, rfl⟩
      generalize umod k o.length = i1 at hu1 ⊢
      have e2 : ((o.length : Int) + 2) = ((o.length + 2 : Nat) : Int) := by omega
      have HE2 := hide e2
      clear e2
      go_wp2_with fail
      rw [HE2.out]
      refine (mod_any v (o.length + 2) _ (by omega) (by omega)).mono ?_
      rintro e w2 ⟨rfl, rfl⟩
      generalize umod v (o.length + 2) = i2 at hu2 ⊢
      obtain ⟨g, u, rfl, hg, hcu, hfu, hrs⟩ := row_set (.int .i64 ((i2 : Int) - 1)) HOWN1.out hu1
      obtain ⟨l', hl', hll⟩ : ∃ l' : List Int, l'.map (Value.int .i64) = (o.map nv).set i1 (.int .i64 ((i2 : Int) - 1)) ∧ l'.length = o.length := ⟨(toInts o).set i1 ((i2 : Int) - 1), by rw [List.map_set, toInts_nv], by simp [toInts]⟩
      rw [← hl'] at hrs
      have hf2 : Fr [] w (w1.setCell ⟨g, i1, none⟩ (.int .i64 ((i2 : Int) - 1))) := hfr1.set (.inr hg) _
      have HR2 := hide hrs
      have i11 : (i1 : Int) < (o.length : Int) := by omega
      clear hrs hl' HE2
      go_wp2_with fail
      generalize w1.setCell ⟨g, i1, none⟩ (.int .i64 ((i2 : Int) - 1)) = w2 at hf2 HR2 ⊢
      generalize (some ⟨g, 0, none⟩ : Option Addr) = A1 at HA1 HR2 ⊢
      clear hcu hfu hfr1 hg HR1 HOWN1
    case' neg =>
      have hzb : decide ((0 : Int) < (o.length : Int)) = false := decide_eq_false (by omega)
      obtain ⟨l', hl', hll⟩ : ∃ l' : List Int, l'.map (Value.int .i64) = o.map nv ∧ l'.length = o.length := ⟨toInts o, toInts_nv o, by simp [toInts]⟩
      have hf2 := hfr1
      have hrs := HR1.out
      rw [← hl'] at hrs
      have HR2 := hide hrs
      clear hrs hl'
      go_wp2_with fail
      generalize w1 = w2 at hf2 HR2 ⊢
      clear hfr1 HR1 HOWN1
    all_goals
      rw [← hll] at h7 ⊢
      clear hll
      refine (new_e A cp raw w2 (HR.out.fr0 hf2) HA.out (by omega)).mono ?_
      rintro e w3 ⟨⟨p, hp, rfl⟩, hfr3⟩
      have hf3 := hf2.call hfr3
      have HR3 := hide (HR2.out.fr0 hfr3)
      have HP := hide hp
      obtain ⟨ec, hec⟩ : ∃ ec, ECode raw = ec := ⟨_, rfl⟩
      have HEC := hide hec
      rw [hec]
      clear hfr3 HR2 hf2 hp hec
      go_wp2_with fail
      refine (rnew_e A cp raw w3 (HR.out.fr0 hf3) (by omega)).mono ?_
      rintro e w4 ⟨⟨p1, rfl⟩, hfr4⟩
      have hf4 := hf3.call hfr4
      have HR4 := hide (HR3.out.fr0 hfr4)
      rw [HEC.out]
      clear hfr4 HR3 hf3
      go_wp2_with fail
      refine (new_e A1 c1 l' w4 HR4.out HA1.out (by omega)).mono ?_
      rintro e w5 ⟨⟨p2, hp2, rfl⟩, hfr5⟩
      have hf5 := hf4.call hfr5
      have HR5 := hide (HR4.out.fr0 hfr5)
      have HP2 := hide hp2
      obtain ⟨ed, hed⟩ : ∃ ed, ECode l' = ed := ⟨_, rfl⟩
      have HED := hide hed
      rw [hed]
      clear hfr5 HR4 hf4 hp2 hed
      go_wp2_with fail
      refine (rnew_e A1 c1 l' w5 HR5.out (by omega)).mono ?_
      rintro e w6 ⟨⟨p3, rfl⟩, hfr6⟩
      have hf6 := hf5.call hfr6
      rw [HED.out]
      clear hfr6 HR5 hf5
      have hec := HEC.out
      have hed := HED.out
      have hp := HP.out
      have hp2 := HP2.out
      unfold ECode at hec hed
      clear HEC HED HP HP2
      rcases hp with ⟨h1, rfl⟩ | ⟨h1, b1, rfl⟩
      all_goals
        rw [h1] at hec
        simp at hec
        subst hec
        clear h1
        rcases hp2 with ⟨h2, rfl⟩ | ⟨h2, b2, rfl⟩
        all_goals
          rw [h2] at hed
          simp at hed
          subst hed
          clear h2
          go_wp2_with fail
          refine (awake30_any _).mono ?_
          rintro e w10 ⟨rfl, hfr10⟩
          go_wp2
          go_ret
          exact ⟨rfl, hf6.call hfr10⟩
end Go.Proofs.Ytgbkgiglagfciaa
