/- Walks: law28's board: idle devices, power devices and rails. -/
import Derived.Test.YtdocdgghphhdpaaMgRpInUse21
import Derived.Test.YtdocdgghphhdpaaMgRpInUse18
import Derived.Test.YtdocdgghphhdpaaMgRpInUse16
namespace Go.Proofs.Ytdocdgghphhdpaa
open Go.RowKit

theorem Row.uint {w : World} {A : Option Addr} {l : List Nat} (hr : Row w A (l.map uv)) {i : Nat} {x : Nat} (h : l[i]? = some x) :
    ∃ ob oo, A = some ⟨ob, oo, none⟩ ∧ w.cell? ⟨ob, oo + i, none⟩ = some (.int .u64 (x : Int)) := by
  obtain ⟨ob, oo, e, hc⟩ := hr (by have := (List.getElem?_eq_some_iff.1 h).1; rw [List.length_map]; omega)
  exact ⟨ob, oo, e, hc i _ (by simp [h])⟩
theorem id_info : (Try.prog.info? 143).map (fun i => (i.zero, i.size, i.bytes)) = some (some (.agg #[.int .i64 0, .slice none 0 0, .int .u64 0]), 3, 40) := by kernel_rfl
/-- The idle device that stands for a power device. -/
def idOf (x : DV) (dl : Nat) : ID := ⟨x.d.par, .slice none 0 0, dl, []⟩
def IdTo (out : List DV) (ids : List ID) (k : Nat) : Prop := ids.length = k ∧ ∀ i x, i < k → out[i]? = some x → ∃ dl, dl ≤ 11 ∧ ids[i]? = some (idOf x dl)
theorem IdTo.snoc {out : List DV} {ids : List ID} {k dl : Nat} {x : DV} (h : IdTo out ids k) (hx : out[k]? = some x) (hd : dl ≤ 11) : IdTo out (ids ++ [idOf x dl]) (k + 1) := by
  refine ⟨by rw [List.length_append, h.1]; rfl, fun i y hi hy => ?_⟩
  by_cases e : i = k
  · subst e
    rw [hx] at hy
    injection hy with hy
    subst hy
    exact ⟨dl, hd, by rw [List.getElem?_append_right (by rw [h.1]; omega), h.1]; simp⟩
  · obtain ⟨d, h1, h2⟩ := h.2 i y (by omega) hy
    exact ⟨d, h1, by rw [List.getElem?_append_left (by rw [h.1]; omega)]; exact h2⟩
def RbRel (w3 : World) (g : Nat) (out : List DV) (v1 v2 : Value) (m : Nat) (i : Value) (wr : World) : Prop :=
  ∃ (k : Nat) (ids : List ID) (vI : Value), k ≤ out.length ∧ i = .int .i64 (k : Int) ∧ Blk wr g 87 #[vI, v1, v2] ∧ wr.ownsRow w3.heap.size 143 3 vI k (idcs ids) ∧ IdTo out ids k ∧ FrX [g] w3.heap.size w3 wr ∧ m = out.length - k
def BoardRet (w : World) (e : Ending) (w' : World) : Prop :=
  ∃ (C : TC) (ids : List ID) (A7 A8 Ai : Option Addr) (c7 c8 ci : Nat) (out : List DV), e = .returned (.agg #[.slice Ai C.nd ci, .slice A8 C.nd c8, .slice A7 C.n c7]) ∧ Fr [] w w' ∧ ids.length = C.nd ∧ Row w' Ai (idcs ids) ∧ C.nd ≤ 6 ∧ C.n ≤ 8 ∧ TOk C ∧
    (∀ i d, ids[i]? = some d → d.par = C.par i ∧ d.sv = .slice none 0 0 ∧ d.dl ≤ 11 ∧ d.sup = []) ∧
    ∀ w2', Fr [] w' w2' → Calls Try.prog 18 #[.slice A8 C.nd c8, .slice A7 C.n c7] w2' (fun e w3 => ∃ T ds', e = .returned (.tuple #[.pointer (some ⟨T.b, 0, none⟩), .int .i64 0]) ∧ Brd w w3 A8 A7 out C T ds' ∧ Fr [] w2' w3 ∧ (∀ g ∈ T.wr, w2'.heap.size ≤ g) ∧ TrHi T ds' w2'.heap.size)
set_option maxHeartbeats 16000000 in
set_option maxRecDepth 100000 in
theorem board_any (A0 : Option Addr) (cp0 : Nat) (raw : List DV) (A1 : Option Addr) (cp1 n1 : Nat) (R1 : Nat → RailD) (A2 : Option Addr) (cp2 : Nat) (du : List Nat) (w : World) (hr0 : DvsAt w A0 raw) (hm0 : raw.length ≤ maxLen) (hlg : ∀ x ∈ raw, ∀ k, (x.rl k).length ≤ 4096) (hr1 : Row w A1 (rlcs R1 n1)) (hn1 : n1 ≤ 20) (hr2 : Row w A2 (du.map uv)) (hm2 : du.length ≤ maxLen) :
    Calls Try.prog 41 #[.slice A0 raw.length cp0, .slice A1 n1 cp1, .slice A2 du.length cp2] w (BoardRet w) := by
  have HDV := hide hr0
  have HML := hide hm0
  have HLG := hide hlg
  have HR1 := hide hr1
  have HDU := hide hr2
  obtain ⟨i0, hi0, hz0, hz1, hz2⟩ := info_parts id_info
  have HI := hide (And.intro hi0 (And.intro hz0 (And.intro hz1 hz2)))
  unfold maxLen at hm0 hm2
  clear hr0 hlg hr1 hr2 hi0 hz0 hz1 hz2
  go_enter Try.func41, Try.ntmps41
  go_wp2_with fail
  have hb6 := Blk.new w 87 #[.slice none 0 0, .slice none 0 0, .slice none 0 0]
  have hf6 : Fr [] w (w.alloc (.cells #[.slice none 0 0, .slice none 0 0, .slice none 0 0] 87)) := (Fr.refl _ _).alloc _
  generalize w.alloc (.cells #[.slice none 0 0, .slice none 0 0, .slice none 0 0] 87) = w0 at hb6 hf6 ⊢
  obtain ⟨g6, hg6⟩ : ∃ g6, g6 = w.heap.size := ⟨_, rfl⟩
  rw [← hg6] at hb6 ⊢
  have HG6 := hide hg6
  clear hg6
  refine (some25_any A1 cp1 n1 R1 w0 (HR1.out.fr0 hf6) hn1).mono ?_
  rintro e w1 ⟨v7, m, R, rk, rfl, hown7, hgood, hf1⟩
  obtain ⟨A7, c7, rfl, -, -, -⟩ := own_slice hown7
  have hn8 := hgood.n8
  have HOWN7 := hide hown7
  have HGOOD := hide hgood
  have HB6 := hide (hb6.fr hf1 (by simp))
  have hf01 := hf6.call hf1
  clear hown7 hgood hb6
  go_wp2_with fail
  have hb7 := Blk.new w1 87 #[.slice none 0 0, .slice none 0 0, .slice A7 m c7]
  have hfa : Fr [] w1 (w1.alloc (.cells #[.slice none 0 0, .slice none 0 0, .slice A7 m c7] 87)) := (Fr.refl _ _).alloc _
  generalize w1.alloc (.cells #[.slice none 0 0, .slice none 0 0, .slice A7 m c7] 87) = wa at hb7 hfa ⊢
  obtain ⟨g, hg⟩ : ∃ g, g = w1.heap.size := ⟨_, rfl⟩
  rw [← hg] at hb7 ⊢
  have HG := hide hg
  clear hg
  refine (some27_any A0 cp0 raw m wa (HDV.out.fr0 (hf01.call hfa)) HML.out (fun x hx k => Nat.le_trans (HLG.out x hx k) (by unfold maxLen; omega)) (by omega)).mono ?_
  rintro e w2 ⟨v8, out, rfl, hown8, hrl, hso, hf2⟩
  obtain ⟨A8, c8, rfl, -, hrow8, -⟩ := own_slice hown8
  have ho6 : out.length ≤ 6 := by rw [hso.1]; omega
  have HB7 := hide (hb7.fr hf2 (by simp))
  have hsa := hfa.size
  have HOWN8 := hide (own_base hown8 hsa)
  have HRL : Hid (∀ x ∈ out, OwnRails w2 w1.heap.size x.d x.rl) := hide (fun x hx q hq => own_base (hrl x hx q hq) hsa)
  have HSO := hide hso
  have HROW8 := hide hrow8
  have hf12 := hfa.call hf2
  have f71 := HB7.out.frozen 1
  have c71 := HB7.out.cell 1
  simp only [List.getElem?_toArray, List.getElem?_cons_zero, List.getElem?_cons_succ] at c71
  clear hown8 hrl hso hrow8 hb7 hf1 hf2
  go_upto_region 4 with (fail)
  have HB2 := HB7
  have HB3 := hide (HB7.out.set_ 1 (.slice A8 out.length c8))
  have hf23 : Fr [g] w2 (w2.setCell ⟨g, 1, none⟩ (.slice A8 out.length c8)) := (Fr.refl _ _).set (.inl (by simp)) _
  clear f71 c71 HB7
  generalize w2.setCell ⟨g, 1, none⟩ (.slice A8 out.length c8) = w3 at HB3 hf23 ⊢
  have hf13 : Fr [] w1 w3 := hf12.step hf23 (fun y hy => .inr (by rw [List.mem_singleton.1 hy, HG.out]; exact Nat.le_refl _))
  have HO8 := hide (own_fr HOWN8.out hf23 (fun y hy hm => by
    obtain ⟨-, -, cs, h2⟩ := own_block HOWN8.out hy
    exact Blk.ne_ h2 HB2.out (by decide) (List.mem_singleton.1 hm)))
  have HRL3 : Hid (∀ x ∈ out, OwnRails w3 w1.heap.size x.d x.rl) := hide (fun x hx q hq => own_fr (HRL.out x hx q hq) hf23 (fun y hy hm => by
    obtain ⟨-, -, cs, h2⟩ := own_block (HRL.out x hx q hq) hy
    exact Blk.ne_ h2 HB2.out (by decide) (List.mem_singleton.1 hm)))
  have HLO8 : Hid (∀ y, (Value.slice A8 out.length c8).ownBlock = some y → y < w3.heap.size ∧ y ∉ [g]) := hide (fun y hy => by
    obtain ⟨-, h1, cs, h2⟩ := own_block HO8.out hy
    exact ⟨h1, fun hm => Blk.ne_ h2 HB3.out (by decide) (List.mem_singleton.1 hm)⟩)
  have HLOR : Hid (∀ x ∈ out, ∀ q, q < 4 → ∀ y, (x.d.rf q).ownBlock = some y → y < w3.heap.size ∧ y ∉ [g]) := hide (fun x hx q hq y hy => by
    obtain ⟨-, h1, cs, h2⟩ := own_block (HRL3.out x hx q hq) hy
    exact ⟨h1, fun hm => Blk.ne_ h2 HB3.out (by decide) (List.mem_singleton.1 hm)⟩)
  obtain ⟨A8', c8', e8, -, hrow3, -⟩ := own_slice HO8.out
  injection e8 with e8 _ e8c
  subst e8 e8c
  have HROW3 := hide hrow3
  have HLOA : Hid (∀ ad, A8 = some ad → ad.block < w3.heap.size ∧ ad.block ∉ [g]) := hide (fun ad e => HLO8.out ad.block (by rw [e]; rfl))
  clear hrow3 HOWN8 HRL HB2 hf23 hf12 HROW8
  go_loopg [8] out.length (fun m' i wr => RbRel w3 g out (.slice A8 out.length c8) (.slice A7 m c7) m' i wr)
  case atStart => exact ⟨0, [], _, by omega, rfl, HB3.out, own_nil _ _ _ _, ⟨rfl, fun i x hi => by omega⟩, FrX.refl _ _ _, rfl⟩
  case round =>
    obtain ⟨k, ids, vI, hk, rfl, hbk, hown, hid, hfr, hmm⟩ := hrel
    obtain ⟨AI, cI, rfl, -, hrowI, -⟩ := own_slice hown
    have HMM := hide hmm
    have HBK := hide hbk
    have HOWI := hide hown
    have HID := hide hid
    have HRWI := hide hrowI
    have hsz3 := hfr.size
    have hf1r : Fr [] w1 wr := by
      obtain ⟨S, hS, hfS⟩ := hfr
      refine hf13.step hfS (fun y hy => .inr ?_)
      rcases hS y hy with h | h
      · rw [List.mem_singleton.1 h, HG.out]
        exact Nat.le_refl _
      · have := hf13.size
        omega
    have hf0r := hf01.call hf1r
    have k0 := HBK.out.cell 0
    have k1 := HBK.out.cell 1
    have k2 := HBK.out.cell 2
    simp only [List.getElem?_toArray, List.getElem?_cons_zero, List.getElem?_cons_succ] at k0 k1 k2
    clear hmm hbk hown hid HB3 hrowI
    by_cases hkn : k < out.length
    · have hki : (k : Int) < (out.length : Int) := by omega
      obtain ⟨x, hx⟩ : ∃ x, out[k]? = some x := ⟨_, List.getElem?_eq_getElem hkn⟩
      have HX := hide hx
      obtain ⟨ob, oo, eA, hc⟩ := Row.el (f := dvc) dvc_len (by omega) (hfr.row HROW3.out HLOA.out) hx
      have p0 : wr.cell? ⟨ob, oo + k * 13, none⟩ = some (.int .i64 x.d.par) := hc 0 _ rfl
      subst eA
      clear hx hc
      go_upto_region 7 with (fail)
      have hbg0 := Blk.new wr 143 #[.int .i64 x.d.par, .slice none 0 0, .int .u64 0]
      have hfb0 : Fr [] wr (wr.alloc (.cells #[.int .i64 x.d.par, .slice none 0 0, .int .u64 0] 143)) := (Fr.refl _ _).alloc _
      generalize wr.alloc (.cells #[.int .i64 x.d.par, .slice none 0 0, .int .u64 0] 143) = wb at hbg0 hfb0 ⊢
      obtain ⟨gd, hgd⟩ : ∃ gd, gd = wr.heap.size := ⟨_, rfl⟩
      rw [← hgd] at hbg0 ⊢
      have HGD := hide hgd
      have HBG0 := hide hbg0
      clear hgd hbg0 k0 k1 k2 p0
      by_cases hdu : k < du.length
      · have hdui : (k : Int) < (du.length : Int) := by omega
        obtain ⟨y, hy⟩ : ∃ y, du[k]? = some y := ⟨_, List.getElem?_eq_getElem hdu⟩
        obtain ⟨o1, o2, eD, q0⟩ := (HDU.out.fr0 (hf0r.call hfb0)).uint hy
        subst eD
        have g2 := HBG0.out.cell 2
        simp only [List.getElem?_toArray, List.getElem?_cons_zero, List.getElem?_cons_succ] at g2
        have f2 := HBG0.out.frozen 2
        have h12 : (y : Int).tmod 12 = ((y % 12 : Nat) : Int) := rfl
        have h12b : (y : Int) % 12 = ((y % 12 : Nat) : Int) := rfl
        have hdl : y % 12 ≤ 11 := by omega
        clear hy
        generalize y % 12 = dl at h12 h12b hdl
        go_upto_region 9 with (fail)
        have HBG := hide (show Blk (wb.setCell ⟨gd, 2, none⟩ (.int .u64 (dl : Int))) gd 143 #[.int .i64 x.d.par, .slice none 0 0, .int .u64 (dl : Int)] from HBG0.out.set_ 2 (.int .u64 (dl : Int)))
        have hfb : Fr [] wr (wb.setCell ⟨gd, 2, none⟩ (.int .u64 (dl : Int))) := hfb0.set (.inr (by rw [HGD.out]; exact Nat.le_refl _)) _
        clear q0 g2 f2 h12 h12b hfb0 HBG0
        generalize wb.setCell ⟨gd, 2, none⟩ (.int .u64 (dl : Int)) = wb at HBG hfb ⊢
        have d0 := HBG.out.cell 0
        have d1 := HBG.out.cell 1
        have d2 := HBG.out.cell 2
        simp only [List.getElem?_toArray, List.getElem?_cons_zero, List.getElem?_cons_succ] at d0 d1 d2
        have HBB := hide (HBK.out.fr hfb (by simp))
        have e0 := HBB.out.cell 0
        simp only [List.getElem?_toArray, List.getElem?_cons_zero] at e0
        have HOB := hide (own_fr HOWI.out hfb (fun _ _ => by simp))
        have HIS := hide (HID.out.snoc HX.out hdl)
        have hszb := hfb.size
        go_upto_region 5 with (first
          | (at_builtin
             refine wpList_append_row _ rfl (.tmp 44) (.tmp 46) _ rfl w3.heap.size 143 i0 (.agg #[.int .i64 0, .slice none 0 0, .int .u64 0]) 3 40 Try.underlying85 HI.out.1 HI.out.2.1 HI.out.2.2.1 HI.out.2.2.2 rfl (by omega) (.slice AI k cI) k (idcs ids) rfl
               (own_fr HOB.out ((Fr.refl [] _).alloc _) (fun _ _ => by simp)) (some ⟨wb.heap.size, 0, none⟩) 1 1 [.int .i64 x.d.par, .slice none 0 0, .int .u64 (dl : Int)] rfl rfl (row_lit wb _ _ rfl) (by intro u hu; simp at hu; rcases hu with rfl | rfl | rfl <;> rfl) (by simp only [maxLen]; omega) (by omega) (by simp; omega) ?_
             intro v5 w5 hown5 hg5 hat5
             obtain ⟨A5, c5, rfl, -, -, -⟩ := own_slice hown5
             have hf5 : Fr (Value.slice AI k cI).ownBlock.toList wb w5 := ((Fr.refl _ _).alloc _).trans (Fr.of_grown hg5)
             have hni : g ∉ (Value.slice AI k cI).ownBlock.toList := fun hm => by obtain ⟨-, -, cs, h2⟩ := own_block HOB.out (show (Value.slice AI k cI).ownBlock = some g by simpa using hm); exact Blk.ne_ h2 HBB.out (by decide) rfl
             have HB5 := hide (HBB.out.fr hf5 hni)
             have t5 := HB5.out.cell 0
             have f5 := HB5.out.frozen 0
             have HOW5 := hide hown5
             have HF5 := hide hf5
             clear hown5 hg5 hat5 hf5 hni))
        go_wp2
        go_roundg (out.length - (k + 1))
        case measure => rw [HMM.out]; omega
        case rel =>
          refine ⟨k + 1, ids ++ [idOf x dl], _, by omega, by go_num, HB5.out.set_ 0 _, ?_, HIS.out, ?_, rfl⟩
          · rw [idcs_snoc]
            refine own_fr HOW5.out ((Fr.refl [g] _).set (.inl (by simp)) _) (fun y hy hm => ?_)
            obtain ⟨-, -, cs, h2⟩ := own_block HOW5.out hy
            exact Blk.ne_ h2 HB5.out (by decide) (List.mem_singleton.1 hm)
          · exact ((hfr.call hfb).trans ⟨_, fun y hy => .inr (own_block HOWI.out (show (Value.slice AI k cI).ownBlock = some y by simpa using hy)).1, HF5.out⟩).set (by simp) _
      · have hdui : ¬ (k : Int) < (du.length : Int) := by omega
        obtain ⟨dl, hdl0⟩ : ∃ dl : Nat, dl = 0 := ⟨_, rfl⟩
        have HBG : Hid (Blk wb gd 143 #[.int .i64 x.d.par, .slice none 0 0, .int .u64 (dl : Int)]) := hide (by rw [hdl0]; exact HBG0.out)
        have hfb := hfb0
        have hdl : dl ≤ 11 := by omega
        clear hdl0 HBG0 hfb0
        go_upto_region 9 with (fail)
        have d0 := HBG.out.cell 0
        have d1 := HBG.out.cell 1
        have d2 := HBG.out.cell 2
        simp only [List.getElem?_toArray, List.getElem?_cons_zero, List.getElem?_cons_succ] at d0 d1 d2
        have HBB := hide (HBK.out.fr hfb (by simp))
        have e0 := HBB.out.cell 0
        simp only [List.getElem?_toArray, List.getElem?_cons_zero] at e0
        have HOB := hide (own_fr HOWI.out hfb (fun _ _ => by simp))
        have HIS := hide (HID.out.snoc HX.out hdl)
        have hszb := hfb.size
        go_upto_region 5 with (first
          | (at_builtin
             refine wpList_append_row _ rfl (.tmp 44) (.tmp 46) _ rfl w3.heap.size 143 i0 (.agg #[.int .i64 0, .slice none 0 0, .int .u64 0]) 3 40 Try.underlying85 HI.out.1 HI.out.2.1 HI.out.2.2.1 HI.out.2.2.2 rfl (by omega) (.slice AI k cI) k (idcs ids) rfl
               (own_fr HOB.out ((Fr.refl [] _).alloc _) (fun _ _ => by simp)) (some ⟨wb.heap.size, 0, none⟩) 1 1 [.int .i64 x.d.par, .slice none 0 0, .int .u64 (dl : Int)] rfl rfl (row_lit wb _ _ rfl) (by intro u hu; simp at hu; rcases hu with rfl | rfl | rfl <;> rfl) (by simp only [maxLen]; omega) (by omega) (by simp; omega) ?_
             intro v5 w5 hown5 hg5 hat5
             obtain ⟨A5, c5, rfl, -, -, -⟩ := own_slice hown5
             have hf5 : Fr (Value.slice AI k cI).ownBlock.toList wb w5 := ((Fr.refl _ _).alloc _).trans (Fr.of_grown hg5)
             have hni : g ∉ (Value.slice AI k cI).ownBlock.toList := fun hm => by obtain ⟨-, -, cs, h2⟩ := own_block HOB.out (show (Value.slice AI k cI).ownBlock = some g by simpa using hm); exact Blk.ne_ h2 HBB.out (by decide) rfl
             have HB5 := hide (HBB.out.fr hf5 hni)
             have t5 := HB5.out.cell 0
             have f5 := HB5.out.frozen 0
             have HOW5 := hide hown5
             have HF5 := hide hf5
             clear hown5 hg5 hat5 hf5 hni))
        go_wp2
        go_roundg (out.length - (k + 1))
        case measure => rw [HMM.out]; omega
        case rel =>
          refine ⟨k + 1, ids ++ [idOf x dl], _, by omega, by go_num, HB5.out.set_ 0 _, ?_, HIS.out, ?_, rfl⟩
          · rw [idcs_snoc]
            refine own_fr HOW5.out ((Fr.refl [g] _).set (.inl (by simp)) _) (fun y hy hm => ?_)
            obtain ⟨-, -, cs, h2⟩ := own_block HOW5.out hy
            exact Blk.ne_ h2 HB5.out (by decide) (List.mem_singleton.1 hm)
          · exact ((hfr.call hfb).trans ⟨_, fun y hy => .inr (own_block HOWI.out (show (Value.slice AI k cI).ownBlock = some y by simpa using hy)).1, HF5.out⟩).set (by simp) _
    · have hke : k = out.length := by omega
      subst hke
      have hki : ¬ (out.length : Int) < (out.length : Int) := by omega
      have HB6r := hide (HB6.out.fr hf1r (by simp))
      have j0 := HB6r.out.cell 0
      have j1 := HB6r.out.cell 1
      have j2 := HB6r.out.cell 2
      simp only [List.getElem?_toArray, List.getElem?_cons_zero, List.getElem?_cons_succ] at j0 j1 j2
      have l0 := HB6r.out.frozen 0
      have l1 := HB6r.out.frozen 1
      have l2 := HB6r.out.frozen 2
      go_wp2
      have HBF := hide (show Blk (((wr.setCell ⟨g6, 0, none⟩ (.slice AI out.length cI)).setCell ⟨g6, 1, none⟩ (.slice A8 out.length c8)).setCell ⟨g6, 2, none⟩ (.slice A7 m c7)) g6 87 #[.slice AI out.length cI, .slice A8 out.length c8, .slice A7 m c7] from ((HB6r.out.set_ 0 _).set_ 1 _).set_ 2 _)
      have hg61 : g6 < w1.heap.size := HB6.out.lt
      have hfF : Fr [g6] wr (((wr.setCell ⟨g6, 0, none⟩ (.slice AI out.length cI)).setCell ⟨g6, 1, none⟩ (.slice A8 out.length c8)).setCell ⟨g6, 2, none⟩ (.slice A7 m c7)) := (((Fr.refl _ _).set (.inl (by simp)) _).set (.inl (by simp)) _).set (.inl (by simp)) _
      generalize (((wr.setCell ⟨g6, 0, none⟩ (.slice AI out.length cI)).setCell ⟨g6, 1, none⟩ (.slice A8 out.length c8)).setCell ⟨g6, 2, none⟩ (.slice A7 m c7)) = wF at HBF hfF ⊢
      clear j0 j1 j2 l0 l1 l2 k0 k1 k2
      have j0 := HBF.out.cell 0
      have j1 := HBF.out.cell 1
      have j2 := HBF.out.cell 2
      simp only [List.getElem?_toArray, List.getElem?_cons_zero, List.getElem?_cons_succ] at j0 j1 j2
      refine bodyPost_ret (v := .agg #[.slice AI out.length cI, .slice A8 out.length c8, .slice A7 m c7]) (by simp [results, Try.results41, go_sem, loadVar, j0, j1, j2]) rfl ?_
      have n6 : ∀ {y : Nat} {t : TypeId} {cs : Array Value}, Blk wr y t cs → t ≠ 87 → y ∉ [g6] := fun h2 hne hm => Blk.ne_ h2 HB6r.out hne (List.mem_singleton.1 hm)
      have hO7 := own_fr (own_fr HOWN7.out hf1r (fun _ _ => by simp)) hfF (fun y hy => by
        obtain ⟨-, -, cs, h2⟩ := own_block (own_fr HOWN7.out hf1r (fun _ _ => by simp)) hy
        exact n6 h2 (by decide))
      have hO8r := hfr.own HO8.out HLO8.out
      have hO8 := own_fr hO8r hfF (fun y hy => by
        obtain ⟨-, -, cs, h2⟩ := own_block hO8r hy
        exact n6 h2 (by decide))
      have hRLr : ∀ x ∈ out, OwnRails wr w1.heap.size x.d x.rl := fun x hx q hq => hfr.own (HRL3.out x hx q hq) (HLOR.out x hx q hq)
      have hRL : ∀ x ∈ out, OwnRails wF w1.heap.size x.d x.rl := fun x hx q hq => own_fr (hRLr x hx q hq) hfF (fun y hy => by
        obtain ⟨-, -, cs, h2⟩ := own_block (hRLr x hx q hq) hy
        exact n6 h2 (by decide))
      have hOI := own_fr HOWI.out hfF (fun y hy => by
        obtain ⟨-, -, cs, h2⟩ := own_block HOWI.out hy
        exact n6 h2 (by decide))
      have hfwF : Fr [] w wF := hf0r.step hfF (fun y hy => .inr (by rw [List.mem_singleton.1 hy, HG6.out]; exact Nat.le_refl _))
      obtain ⟨C, rfl, hnd, htie, hok, hcall⟩ := brd_new4 hO7 HGOOD.out hfwF hO8 hRL HSO.out
      obtain ⟨AI', cI', eI, -, hrI, -⟩ := own_slice hOI
      injection eI with eI _ eIc
      subst eI eIc
      rw [hnd] at hcall ⊢
      refine ⟨C, ids, A7, A8, AI, c7, c8, cI, out, rfl, hfwF, by rw [← hnd]; exact HID.out.1, hrI, by omega, hn8, hok, fun i d hd => ?_, hcall⟩
      have hi : i < out.length := by rw [← HID.out.1]; exact (List.getElem?_eq_some_iff.1 hd).1
      obtain ⟨dl, h1, h2⟩ := HID.out.2 i _ hi (List.getElem?_eq_getElem hi)
      rw [hd] at h2
      injection h2 with h2
      subst h2
      exact ⟨(htie i _ (List.getElem?_eq_getElem hi)).1, rfl, h1, rfl⟩
end Go.Proofs.Ytdocdgghphhdpaa

