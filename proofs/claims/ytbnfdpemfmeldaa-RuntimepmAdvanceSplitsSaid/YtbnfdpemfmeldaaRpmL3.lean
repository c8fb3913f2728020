/- The law RuntimepmAdvanceSplits, walked. -/
import Derived.Test.YtbnfdpemfmeldaaRpmW9
import Derived.Test.YtbnfdpemfmeldaaAppG
namespace Go.Proofs.Ytbnfdpemfmeldaa
open Go.RowKit

set_option maxHeartbeats 8000000 in
set_option maxRecDepth 100000 in
theorem splits_walk (A B : Option Addr) (cp cq : Nat) (raw : List ID) (l : List CL) (x y : Nat) (w : World) (hr : Row w A (idcs raw)) (hw : ∀ x ∈ raw, IdWf w x) (hm : raw.length ≤ maxLen) (hl : Row w B (clcs l)) (hlm : l.length ≤ maxLen) (hlw : ∀ c ∈ l, c.wait ≤ 18446744073709551615) :
    Calls Try.prog 4 #[.slice A raw.length cp, .slice B l.length cq, uv x, uv y] w fun e w' => e = .returned (.bool true) ∧ Fr [] w w' := by
  have HR : Hid (IdsAt w A raw) := hide ⟨hr, fun x hx => (hw x hx).at_⟩
  have HL := hide hl
  have HLW := hide hlw
  clear hr hw hl hlw
  go_enter Try.func4, Try.ntmps4
  go_wp2_with fail
  refine (large28_any A B cp cq l.length raw w HR.out hm hlm).mono ?_
  rintro e w1 ⟨big, rfl, hlg, rfl⟩
  cases big with
  | true =>
    go_wp2_with fail
    refine (awake28_any w).mono ?_
    rintro e w7 ⟨rfl, hf7⟩
    go_wp2
    go_ret
    exact ⟨rfl, hf7⟩
  | false =>
  obtain ⟨hr20, hl40, hs20⟩ := hlg rfl
  have HS20 := hide hs20
  clear hlg hs20 hm hlm
  go_wp2_with fail
  refine (some28_any A cp raw w HR.out hr20 HS20.out).mono ?_
  rintro e w2 ⟨v2, out, rfl, hown, hsup, hdev, hf2⟩
  obtain ⟨A5, c5, rfl, -, -, -⟩ := own_slice hown
  have HOUT := hide (ids_stay hown hsup)
  have HDEV := hide hdev
  have ho8 := hdev.len
  clear hown hsup hdev
  go_wp2_with fail
  refine (play28_any A5 B c5 cq out l w2 (HOUT.out [] w2 (Fr.refl _ _) (by simp)) HDEV.out (HL.out.fr0 hf2) hl40).mono ?_
  rintro e w3 ⟨P, rfl, hmg, hst, hnow, hb, hg, htop, hbot, hf3⟩
  have HMO := hide HDEV.out.new.2.1
  have HORD := hide HDEV.out.new.2.2.1
  have hfw3 := hf2.call hf3
  have HL3 := hide (HL.out.fr0 hfw3)
  go_wp2_with fail
  refine (play28_any A5 B c5 cq out l w3 (HOUT.out [] w3 hf3 (by simp)) HDEV.out HL3.out hl40).mono ?_
  rintro e w4 ⟨Q, rfl, qmg, -, -, qb, qg, qtop, qbot, qf⟩
  have hz3 := hf3.size
  have hmg4 := hmg.fr0 qf
  have hz4 := qf.size
  generalize (plM (newRM out) l).2 = now at hst hnow ⊢
  generalize (plM (newRM out) l).1 = s at hmg4 hst qmg
  rw [show uv now = Value.int .u64 (now : Int) from rfl]
  have hnow6 : now ≤ 600 := by omega
  have hnowi : (now : Int) ≤ 600 := by omega
  have HP := hide hmg4
  have HQ := hide qmg
  have HST := hide hst
  have HSO := hide (hst.sok (by omega) (by omega))
  have hplow := hmg4.low
  have hqlow := qmg.bot
  have hx40 : x % 40 < 40 := Nat.mod_lt _ (by omega)
  have hy40 : y % 40 < 40 := Nat.mod_lt _ (by omega)
  have hrx1 : ((x : Int) % 40) = ((x % 40 : Nat) : Int) := rfl
  have hrx2 : ((x : Int).tmod 40) = ((x % 40 : Nat) : Int) := rfl
  have hry1 : ((y : Int) % 40) = ((y % 40 : Nat) : Int) := rfl
  have hry2 : ((y : Int).tmod 40) = ((y % 40 : Nat) : Int) := rfl
  generalize x % 40 = x1 at hx40 hrx1 hrx2
  generalize y % 40 = y1 at hy40 hry1 hry2
  obtain ⟨t, ht⟩ : ∃ t, t = now + x1 := ⟨_, rfl⟩
  obtain ⟨u, hu⟩ : ∃ u, u = t + y1 := ⟨_, rfl⟩
  have hs1 : ((now : Int) + (x1 : Int)) = (t : Int) := by omega
  have hs2 : ((t : Int) + (y1 : Int)) = (u : Int) := by omega
  have hw1 : IntKind.u64.wrap ((now : Int) + (x1 : Int)) = (t : Int) := by rw [IntKind.wrap_u64]; omega
  have hw2 : IntKind.u64.wrap ((t : Int) + (y1 : Int)) = (u : Int) := by rw [IntKind.wrap_u64]; omega
  have htb : now ≤ t ∧ t ≤ 640 := by omega
  have hub : t ≤ u ∧ u ≤ 680 := by omega
  have hclk := hst.clk
  have HSP := hide (adv_split hst.good.up hub.1)
  have HA1 : Hid (advC (newRM out) s t = ((advM (newRM out) s t).1, (advM (newRM out) s t).2, 0)) := hide (by unfold advC; rw [if_pos ⟨by omega, by omega⟩])
  have hc1 := (advM_use (newRM out) s t).2
  have HA2 : Hid (advC (newRM out) (advM (newRM out) s t).1 u = ((advM (newRM out) (advM (newRM out) s t).1 u).1, (advM (newRM out) (advM (newRM out) s t).1 u).2, 0)) := hide (by unfold advC; rw [if_pos ⟨by omega, by omega⟩])
  have HA3 : Hid (advC (newRM out) s u = ((advM (newRM out) s u).1, (advM (newRM out) s u).2, 0)) := hide (by unfold advC; rw [if_pos ⟨by omega, by omega⟩])
  have HST2 := hide ((adv_did hst.good (last := 0) (Nat.zero_le _)).st (t := t) (adv_sin hst.sin (by omega)) (fun i => by rw [(advM_use (newRM out) s t).1]; exact hst.use i))
  have hlen : ∀ (z : RS) (v : Nat), (advM (newRM out) z v).2.length ≤ 64 := fun z v => by
    have h1 := expK_len (M := newRM out) v ((newRM out).n + 1) { z with clk := v } []
    have h2 := nAct_le (newRM out) { z with clk := v }
    have h3 := HMO.out.n
    unfold advM expM
    simp at h1
    omega
  have hl1 := hlen s t
  have hl2 := hlen (advM (newRM out) s t).1 u
  have hl3 := hlen s u
  clear hst hmg hmg4 qmg hclk hc1 hlen ht hu
  generalize (advM (newRM out) (advM (newRM out) s t).1 u).1 = s3 at HA2
  generalize (advM (newRM out) (advM (newRM out) s t).1 u).2 = o2 at HA2 HSP hl2
  generalize (advM (newRM out) s t).1 = s2 at HA1 HA2 HST2
  generalize (advM (newRM out) s t).2 = o1 at HA1 HSP hl1
  generalize (advM (newRM out) s u).1 = s4 at HA3
  generalize (advM (newRM out) s u).2 = o3 at HA3 HSP hl3
  go_wp2_with fail
  refine (advance28_any HP.out HMO.out HSO.out (by omega) t).mono ?_
  rintro e w5 ⟨v, rfl, hin5, hown5, hf5⟩
  rw [HA1.out] at hin5 hown5 ⊢
  dsimp only at hin5 hown5 ⊢
  obtain ⟨A7, c7, rfl, -, hr7, hb7⟩ := own_slice hown5
  have HIN5 := hide hin5
  have HR7 := hide hr7
  have HB7 := hide hb7
  have hf35 : Fr [] w2 w5 := Fr.two (hf3.call qf) hf5 hb hg
  have hz5 := hf5.size
  have HQ5 := hide (HQ.out.frL hf5 (fun i hi => by simp at hi; rcases hi with rfl | rfl <;> omega))
  clear hin5 hown5 hr7 hb7
  go_wp2_with fail
  refine (advance28_any HIN5.out HMO.out (HST2.out.sok (by omega) (by omega)) (by omega) u).mono ?_
  rintro e w6 ⟨v, rfl, hin6, hown6, hf6⟩
  rw [HA2.out] at hin6 hown6 ⊢
  dsimp only at hin6 hown6 ⊢
  obtain ⟨A8, c8, rfl, -, hr8, hb8⟩ := own_slice hown6
  have HR8 := hide hr8
  have HB8 := hide hb8
  have hf36 : Fr [] w2 w6 := Fr.two hf35 hf6 hb hg
  have hz6 := hf6.size
  have HQ6 := hide (HQ5.out.frL hf6 (fun i hi => by simp at hi; rcases hi with rfl | rfl <;> omega))
  have HR76 := hide (HR7.out.fr hf6 (fun ad e hm => by have := HB7.out ad e; simp at hm; omega))
  clear hin6 hown6 hr8 hb8
  go_wp2_with fail
  refine (advance28_any HQ6.out HMO.out HSO.out (by omega) u).mono ?_
  rintro e w7 ⟨v, rfl, hin7, hown7, hf7⟩
  rw [HA3.out] at hin7 hown7 ⊢
  dsimp only at hin7 hown7 ⊢
  obtain ⟨A9, c9, rfl, -, hr9, -⟩ := own_slice hown7
  have HR9 := hide hr9
  have hf37 : Fr [] w2 w7 := Fr.two hf36 hf7 (by omega) (by omega)
  have hqtop := HQ.out.low
  have HR77 := hide (HR76.out.fr hf7 (fun ad e hm => by have := HB7.out ad e; simp at hm; omega))
  have HR87 := hide (HR8.out.fr hf7 (fun ad e hm => by have := HB8.out ad e; simp at hm; omega))
  clear hin7 hown7 hr9
  have hzw : w.heap.size ≤ w7.heap.size := (hf2.call hf37).size
  have hfw7 : Fr [] w w7 := hf2.call hf37
  have hown0 := own_new w7 (base := w7.heap.size) (e := 47) (size := 3) (n := 0) (c := 0) (cs := #[]) (Nat.le_refl _) rfl (by omega) (by simp [maxLen])
  have HOWN0 : Hid ((w7.alloc (.cells #[] 47)).ownsRow w7.heap.size 47 3 (.slice (some ⟨w7.heap.size, 0, none⟩) 0 0) 0 []) := hide (by simpa using hown0)
  obtain ⟨i0, hi0, hi1⟩ := info_parts28 pop_info
  have HI : Hid (Try.prog.info? 47 = some i0 ∧ i0.zero = some (.agg #[.int .i64 0, .bool false, .int .u64 0]) ∧ i0.size = 3 ∧ i0.bytes = 24) := hide (by
    simp at hi1
    exact ⟨hi0, hi1⟩)
  clear hown0 hi0 hi1 hs1 hs2 hw1 hw2 hrx1 hrx2 hry1 hry2
  go_wp2_with (first
    | (at_builtin
       refine wpList_append_rowG _ (by rfl) (.tmp 87) (.tmp 88) 42 (by rfl) w7.heap.size 47 i0 (.agg #[.int .i64 0, .bool false, .int .u64 0]) 3 24 Try.underlying42 HI.out.1 HI.out.2.1 HI.out.2.2.1 HI.out.2.2.2 rfl (by omega) (.slice (some ⟨w7.heap.size, 0, none⟩) 0 0) 0 [] (by rfl) HOWN0.out
         A7 o1.length c7 (pocs o1) (by rfl) (pocs_length o1) (HR77.out.fr0 ((Fr.refl [] _).alloc _)) (pocs_one o1) (by simp only [maxLen]; omega) (by omega) (by simp) ?_
       intro v8 w8 hown8 hg8 hat8
       rw [Nat.zero_add, List.nil_append] at hown8
       have hf78 : Fr [] w7 w8 := Fr.step (a := w7) (S := []) ((Fr.refl _ w7).alloc _) (Fr.of_grown hg8) (fun i hi => .inr (by simp [Value.ownBlock] at hi; omega))
       have HR88 := hide (HR87.out.fr0 hf78)
       have HR98 := hide (HR9.out.fr0 hf78)
       have hz8 := hf78.size
       obtain ⟨A10, c10, rfl, -, -, -⟩ := own_slice hown8
       have HOWN8 := hide hown8
       clear hown8 hg8 hat8)
    | (at_builtin
       refine wpList_append_rowG _ (by rfl) (.tmp 89) (.tmp 90) 42 (by rfl) w7.heap.size 47 i0 (.agg #[.int .i64 0, .bool false, .int .u64 0]) 3 24 Try.underlying42 HI.out.1 HI.out.2.1 HI.out.2.2.1 HI.out.2.2.2 rfl (by omega) (.slice A10 o1.length c10) o1.length (pocs o1) (by rfl) HOWN8.out
         A8 o2.length c8 (pocs o2) (by rfl) (pocs_length o2) HR88.out (pocs_one o2) (by simp only [maxLen]; omega) (by omega) (by omega) ?_
       intro v9 w9 hown9 hg9 hat9
       rw [← List.length_append, ← pocs_append, HSP.out] at hown9
       have HF89 := hide (Fr.of_grown hg9)
       have HB10 := hide (fun y (hy : (Value.slice A10 o1.length c10).ownBlock = some y) => (own_block HOWN8.out hy).1)
       obtain ⟨A11, c11, rfl, -, hr11, -⟩ := own_slice hown9
       have HR11 := hide hr11
       clear hown9 hg9 hat9 hr11))
  have hf79 : Fr [] w7 w9 := hf78.step HF89.out (fun i hi => .inr (HB10.out i (by simpa using hi)))
  refine (equalPops_any A11 A9 c11 c9 o3 o3 w9 HR11.out (HR9.out.fr0 hf79) (by omega)).mono ?_
  rintro e w10 ⟨rfl, hf10⟩
  rw [decide_eq_true rfl]
  have hfw10 := (hfw7.call hf79).call hf10
  go_wp2_with fail
  refine (awake28_any _).mono ?_
  rintro e w11 ⟨rfl, hf11⟩
  go_wp2
  go_ret
  exact ⟨rfl, hfw10.call hf11⟩
end Go.Proofs.Ytbnfdpemfmeldaa
