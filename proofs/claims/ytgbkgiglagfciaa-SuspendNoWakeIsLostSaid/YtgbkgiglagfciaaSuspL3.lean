/- The law SuspendAbortLikeFailure, walked. -/
import Derived.Test.YtgbkgiglagfciaaSuspW10
namespace Go.Proofs.Ytgbkgiglagfciaa
open Go.RowKit

def BothDn (w : World) (a b : Nat) (o : List Nat) (K : Nat) (m : Nat) (v : Value) (wr : World) : Prop :=
  ∃ k : Nat, k ≤ K ∧ v = .int .i64 k ∧ DnAt wr a o k ∧ DnAt wr b o k ∧ Fr [] w wr ∧ m = K - k
def BothUn (w : World) (a b : Nat) (L : List (Nat × Nat)) (c : Int) (m : Nat) (v : Value) (wr : World) : Prop :=
  ∃ i : Nat, i ≤ L.length ∧ v = .int .i64 i ∧ UnAt wr a (L.drop i) c ∧ UnAt wr b (L.drop i) 20 ∧ Fr [] w wr ∧ m = L.length - i
theorem one_blk {w : World} {b : Nat} (h : ∃ t cs, Blk w b t cs ∧ t ≠ 3) : ∀ g, g ∈ [b] → g < w.heap.size → ∃ t cs, Blk w g t cs ∧ t ≠ 3 := by
  intro g hg _
  rw [List.mem_singleton.1 hg]
  exact h
theorem not_one {a b : Nat} (h : a ≠ b) : a ∉ [b] := by simpa using h

set_option maxHeartbeats 4000000 in
set_option maxRecDepth 100000 in
theorem abortLike_walk (A : Option Addr) (cp : Nat) (raw : List Int) (where_ code : Int) (w : World) (hr : Row w A (raw.map (Value.int .i64))) (hm : raw.length ≤ maxLen) :
    Calls Try.prog 9 #[.slice A raw.length cp, .int .i64 where_, .int .i64 code] w fun e w' => e = .returned (.bool true) ∧ Fr [] w w' := by
  unfold maxLen at hm
  have HR := hide hr
  clear hr
  by_cases h20 : 20 < raw.length ∨ raw.length = 0 ∨ code = 0
  · have hb : (decide ((20 : Int) < (raw.length : Int)) = true) ∨ (decide ((20 : Int) < (raw.length : Int)) = false ∧ ((raw.length : Int) == 0) = true) ∨ (decide ((20 : Int) < (raw.length : Int)) = false ∧ ((raw.length : Int) == 0) = false ∧ (code == 0) = true) := by
      by_cases g1 : 20 < raw.length
      · exact .inl (by simp; omega)
      · by_cases g2 : raw.length = 0
        · exact .inr (.inl ⟨by simp; omega, beq_iff_eq.2 (by omega)⟩)
        · exact .inr (.inr ⟨by simp; omega, beq_eq_false_iff_ne.2 (by omega), beq_iff_eq.2 (by omega)⟩)
    clear h20
    rcases hb with hb | ⟨hb, hb2⟩ | ⟨hb, hb2, hb3⟩
    all_goals
      go_enter Try.func9, Try.ntmps9
      go_wp2_with fail
      refine (awake30_any w).mono ?_
      rintro e w1 ⟨rfl, hfr⟩
      go_wp2
      go_ret
      exact ⟨rfl, hfr⟩
  · have hb : decide ((20 : Int) < (raw.length : Int)) = false := by simp; omega
    have hb2 : ((raw.length : Int) == 0) = false := beq_eq_false_iff_ne.2 (by omega)
    have hb3 : (code == 0) = false := beq_eq_false_iff_ne.2 (by omega)
    have h20' : raw.length ≤ 20 := by omega
    have h0' : 0 < raw.length := by omega
    have hc0 : code ≠ 0 := by omega
    have HC0 := hide hc0
    clear h20 hm hc0
    go_enter Try.func9, Try.ntmps9
    go_wp2_with fail
    refine (order_any A cp raw w HR.out (by omega)).mono ?_
    rintro e w1 ⟨v1, rfl, hown1, hfr1⟩
    obtain ⟨A1, c1, rfl, hA1, hrow1, -⟩ := own_slice hown1
    have HA1 := hide hA1
    have HR1 := hide hrow1
    have hlen := ordR_length raw
    have HOK := hide (ordR_ok raw)
    have HN := hide (ordR_nodup raw)
    have HO := hide (ordR_okOrd raw)
    generalize ordR raw = o at hlen HOK HR1 HN HO ⊢
    have h7 : o.length ≤ 7 := by omega
    have h1 : 0 < o.length := by omega
    clear hlen hA1 hrow1 hown1
    go_wp2_with fail
    refine (new_ord A1 c1 o w1 HOK.out HR1.out HA1.out).mono ?_
    rintro e w2 ⟨a, rfl, hag, hdna, hfr2⟩
    have haw : w.heap.size ≤ a := Nat.le_trans hfr1.size hag
    have hfr : Fr [] w w2 := hfr1.call hfr2
    have HRB := hide (HR1.out.fr0 hfr2)
    have HDA := hide hdna
    clear hdna hfr1 hfr2 hag HR1
    go_wp2_with fail
    refine (new_ord A1 c1 o w2 HOK.out HRB.out HA1.out).mono ?_
    rintro e w3 ⟨b, rfl, hbg, hdnb, hfr3⟩
    have hbw : w.heap.size ≤ b := Nat.le_trans hfr.size hbg
    have hfw : Fr [] w w3 := hfr.call hfr3
    have hab : a ≠ b := by have := HDA.out.lt; omega
    have HAB := hide hab
    have HDA3 := hide (HDA.out.fr0 hfr3)
    have HDB := hide hdnb
    clear hdnb hfr hfr3 hbg HRB HA1 HDA hab
    have hK := umod_lt where_ (show 0 < 4 * o.length by omega)
    generalize hKe : umod where_ (4 * o.length) = K at hK
    have HK := hide hKe
    clear hKe
    go_wp2_with fail
    go_loopg [12] K (fun m v wr => BothDn w a b o K m v wr)
    case atStart => exact ⟨0, by omega, rfl, HDA3.out, HDB.out, hfw, rfl⟩
    case round =>
      obtain ⟨k, hk, rfl, hda, hdb, hfk, hmm⟩ := hrel
      have HM := hide hmm
      have HDKA := hide hda
      have HDKB := hide hdb
      clear hmm hda hdb HDA3 HDB hfw
      go_wp2_with fail
      refine (mod_any where_ (4 * o.length) _ (by omega) (by omega)).mono ?_
      rintro e w4 ⟨rfl, rfl⟩
      rw [HK.out]
      by_cases hlt : k < K
      · have hkb : decide ((k : Int) < (K : Int)) = true := by simp; omega
        go_wp2_with fail
        refine (dn_complete HDKA.out (by omega)).mono ?_
        rintro e w5 ⟨rfl, hda5, hfr5⟩
        have hdb5 := HDKB.out.fr hfr5 (not_one (Ne.symm HAB.out)) (one_blk HDKA.out.blk)
        have hf5 := hfk.call' hfr5 haw
        have HA5 := hide hda5
        have HB5 := hide hdb5
        clear hda5 hdb5 hfr5 hfk HDKA HDKB
        go_wp2_with fail
        refine (dn_complete HB5.out (by omega)).mono ?_
        rintro e w6 ⟨rfl, hdb6, hfr6⟩
        have hda6 := HA5.out.fr hfr6 (not_one HAB.out) (one_blk HB5.out.blk)
        have hf6 := hf5.call' hfr6 hbw
        have HA6 := hide hda6
        have HB6 := hide hdb6
        clear hda6 hdb6 hfr6 hf5 HA5 HB5
        go_wp2
        go_roundg (K - (k + 1))
        case measure => rw [HM.out]; omega
        case rel => exact ⟨k + 1, by omega, by go_num, HA6.out, HB6.out, hf6, rfl⟩
      · have hkb : decide ((k : Int) < (K : Int)) = false := by simp; omega
        have hke : k = K := by omega
        subst hke
        go_wp2_with fail
        refine (dn_fail HDKA.out HN.out (by omega) HC0.out).mono ?_
        rintro e w5 ⟨rfl, hua, hfr5⟩
        have hdb5 := HDKB.out.fr hfr5 (not_one (Ne.symm HAB.out)) (one_blk HDKA.out.blk)
        have hf5 := hfk.call' hfr5 haw
        have HA5 := hide hua
        have HB5 := hide hdb5
        clear hua hdb5 hfr5 hfk HDKA HDKB
        go_wp2_with fail
        refine (dn_abort HB5.out HN.out (by omega)).mono ?_
        rintro e w6 ⟨rfl, hub6, hfr6⟩
        have hua6 := HA5.out.fr hfr6 (not_one HAB.out) (one_blk HB5.out.blk)
        have hf6 := hf5.call' hfr6 hbw
        have hLl : (undoPlan o (goodK o k)).length = k := by rw [undo_length HN.out HO.out, goodK_length (by omega)]
        generalize undoPlan o (goodK o k) = L at hLl hua6 hub6
        have HA6 := hide hua6
        have HB6 := hide hub6
        clear hua6 hub6 hfr6 hf5 HA5 HB5
        go_wp2
        go_loopg [13] L.length (fun m v wr => BothUn w a b L code m v wr)
        case atStart => exact ⟨0, by omega, rfl, HA6.out, HB6.out, hf6, rfl⟩
        case round =>
          obtain ⟨i, hi, rfl, hua, hub, hfi, hmm⟩ := hrel
          have HMI := hide hmm
          clear hmm HA6 HB6 hf6
          have hib : decide ((i : Int) ≤ 8 * (o.length : Int)) = true := by simp; omega
          by_cases hil : i < L.length
          · obtain ⟨x, hx⟩ : ∃ x, L.drop i = x :: L.drop (i + 1) := ⟨_, List.drop_eq_getElem_cons hil⟩
            rw [hx] at hua hub
            have HUA := hide hua
            have HUB := hide hub
            clear hua hub hx
            go_wp2_with fail
            refine (un_next HUA.out).mono ?_
            rintro e w7 ⟨rfl, hfr7⟩
            have hf7 := hfi.call hfr7
            have HA7 := hide ((HUA.out.fr0 hfr7).fr0 ((Fr.refl [] w7).alloc (.cells #[nv x.1, nv x.2] 30)))
            have HB7 := hide ((HUB.out.fr0 hfr7).fr0 ((Fr.refl [] w7).alloc (.cells #[nv x.1, nv x.2] 30)))
            clear hfr7 HUA HUB hfi
            go_wp2_with fail
            refine (un_next HB7.out).mono ?_
            rintro e w8 ⟨rfl, hfr8⟩
            have hbx := (Blk.new w7 30 #[nv x.1, nv x.2]).fr hfr8 (by simp)
            have hx0 := hbx.cell 0
            have hx1 := hbx.cell 1
            simp at hx0 hx1
            have hf8 := (hf7.alloc (.cells #[nv x.1, nv x.2] 30)).call hfr8
            have HA8 := hide ((HA7.out.fr0 hfr8).fr0 ((Fr.refl [] w8).alloc (.cells #[nv x.1, nv x.2] 30)))
            have HB8 := hide ((HB7.out.fr0 hfr8).fr0 ((Fr.refl [] w8).alloc (.cells #[nv x.1, nv x.2] 30)))
            have hlt8 := hbx.lt
            clear hfr8 HA7 HB7 hf7 hbx
            go_wp2_with fail
            refine (un_complete 0 HA8.out).mono ?_
            rintro e w9 ⟨rfl, hua9, hfr9⟩
            rw [if_neg HC0.out] at hua9
            have hub9 := HB8.out.fr hfr9 (not_one (Ne.symm HAB.out)) (one_blk HA8.out.blk)
            have hf9 := (hf8.alloc _).call' hfr9 haw
            have HA9 := hide hua9
            have HB9 := hide hub9
            clear hua9 hub9 hfr9 hf8 HA8 HB8 hx0 hx1 hlt8
            go_wp2_with fail
            refine (un_complete 0 HB9.out).mono ?_
            rintro e w10 ⟨rfl, hub10, hfr10⟩
            rw [if_neg (by omega)] at hub10
            have hua10 := HA9.out.fr hfr10 (not_one HAB.out) (one_blk HB9.out.blk)
            have hf10 := hf9.call' hfr10 hbw
            have HA10 := hide hua10
            have HB10 := hide hub10
            clear hua10 hub10 hfr10 hf9 HA9 HB9
            go_wp2
            go_roundg (L.length - (i + 1))
            case measure => rw [HMI.out]; omega
            case rel => exact ⟨i + 1, by omega, by go_num, HA10.out, HB10.out, hf10, rfl⟩
          · rw [List.drop_eq_nil_of_le (by omega)] at hua hub
            have HUA := hide hua
            have HUB := hide hub
            clear hua hub
            go_wp2_with fail
            refine (un_next0 HUA.out).mono ?_
            rintro e w7 ⟨rfl, hfr7⟩
            have hf7 := hfi.call hfr7
            have HA7 := hide ((HUA.out.fr0 hfr7).fr0 ((Fr.refl [] w7).alloc (.cells #[nv 0, nv 0] 30)))
            have HB7 := hide ((HUB.out.fr0 hfr7).fr0 ((Fr.refl [] w7).alloc (.cells #[nv 0, nv 0] 30)))
            clear hfr7 HUA HUB hfi
            go_wp2_with fail
            refine (un_next0 HB7.out).mono ?_
            rintro e w8 ⟨rfl, hfr8⟩
            have hbx := (Blk.new w7 30 #[nv 0, nv 0]).fr hfr8 (by simp)
            have hx0 := hbx.cell 0
            have hx1 := hbx.cell 1
            simp at hx0 hx1
            have hf8 := (hf7.alloc (.cells #[nv 0, nv 0] 30)).call hfr8
            have HA8 := hide ((HA7.out.fr0 hfr8).fr0 ((Fr.refl [] w8).alloc (.cells #[nv 0, nv 0] 30)))
            have HB8 := hide ((HB7.out.fr0 hfr8).fr0 ((Fr.refl [] w8).alloc (.cells #[nv 0, nv 0] 30)))
            have hlt8 := hbx.lt
            clear hfr8 HA7 HB7 hf7 hbx
            go_wp2_with fail
            refine (un_result0 HA8.out).mono ?_
            rintro e w9 ⟨rfl, rfl⟩
            go_wp2_with fail
            refine (un_result0 HB8.out).mono ?_
            rintro e w9 ⟨rfl, rfl⟩
            have hcc : (code == code) = true := by simp
            go_wp2_with fail
            refine (awake30_any _).mono ?_
            rintro e w10 ⟨rfl, hfr10⟩
            go_wp2
            go_ret
            exact ⟨rfl, (hf8.alloc _).call hfr10⟩
end Go.Proofs.Ytgbkgiglagfciaa
