/- Walks: the reference's Schedule, the walk itself. -/
import Derived.Test.YtinengemeppefaaSchR2Mg
import Derived.Deep.RegionLaw
namespace Go.Proofs.Ytinengemeppefaa
open Go.RowKit

theorem row_four' (w : World) (t : TypeId) (a b c d : Value) : Row (w.alloc (.cells #[a, b, c, d] t)) (some ⟨w.heap.size, 0, none⟩) [a, b, c, d] := row_lit w #[a, b, c, d] t rfl
set_option maxHeartbeats 8000000 in
set_option maxRecDepth 100000 in
theorem rschedule31_any (n W : Int) (A B : Option Addr) (cp cq : Nat) (l : List (Int × Int)) (dur : List Nat) (w : World) (hr : Row w A (pcs l)) (hb : Row w B (dur.map uv)) (hm : l.length ≤ 4096) :
    Calls Try.prog 17 #[.int .i64 n, .slice A l.length cp, .slice B dur.length cq, .int .i64 W] w (SchedRet w (schedM n l dur W)) := by
  obtain ⟨i0, hi0, hz0, hz1, hz2⟩ := info_parts slot_info
  have HI := hide (And.intro hi0 (And.intro hz0 (And.intro hz1 hz2)))
  obtain ⟨i1, hj0, hy0, hy1, hy2⟩ := info_parts int_info1
  have HJ := hide (And.intro hj0 (And.intro hy0 (And.intro hy1 hy2)))
  have HB := hide hb
  have HR := hide hr
  clear hr hb hi0 hz0 hz1 hz2 hj0 hy0 hy1 hy2
  go_enter Try.func17, Try.ntmps17
  go_wp2_with fail
  refine (rinput31_any n W A B cp cq l dur w HR.out HB.out hm).mono ?_
  rintro e w1 ⟨rfl, hf1⟩
  by_cases hc : rinM n l dur W = 0
  · by_cases hW0 : W = 0
    · subst hW0
      have hch : chkM n l dur 0 = 1 := by rw [rinM_zero_wk, if_pos hc]
      have HM1 := hide (schedM_bad (n := n) (l := l) (dur := dur) (W := 0) (by rw [hch]; decide))
      have HCH := hide hch
      rw [hc]
      clear hc hch
      go_wp2
      go_ret2
      exact ⟨.slice none 0 0, by rw [HM1.out, HCH.out]; rfl, by rw [HM1.out]; exact own_nil _ _ _ _, hf1⟩
    · rw [hc]
      rw [rinM_chk hW0] at hc
      have hWb : (W == 0) = false := by simp [hW0]
      obtain ⟨N, V, rfl, rfl, hgood⟩ := chkM_good hc
      have hres := schedM_ok hc
      rw [Int.toNat_natCast, Int.toNat_natCast] at hres
      have HRES := hide hres
      have HG := hide hgood
      have hN := hgood.nodes
      have hW := hgood.wk
      have hdl := hgood.len
      have hll : (toNs l).length ≤ 1024 := by have := hgood.links.2.2.1; simpa [toNs] using this
      have HLT := hide hgood.lt
      have hofn : l = ofNs (toNs l) := by
        unfold ofNs toNs
        rw [List.map_map]
        have : ∀ q ∈ l, (ofN ∘ toN) q = q := fun q hq => by
          have h := hgood.links.2.2.2 q hq
          unfold LinkOk at h
          simp only [Function.comp, toN, ofN]
          exact Prod.ext (by simp only; omega) (by simp only; omega)
        conv => lhs; rw [← List.map_id l]
        exact List.map_congr_left fun q hq => (this q hq).symm
      have hlen2 : (toNs l).length = l.length := by simp [toNs]
      generalize hL : toNs l = L at hll HLT HRES hofn hlen2
      rw [hofn] at HR
      clear hc hgood hres hW0 hofn hL
      have HRA := hide (HR.out.fr0 hf1)
      have hrl : ∀ ad, A = some ad → 0 < L.length → ad.block < w1.heap.size := fun ad e h0 => by
        obtain ⟨ob, oo, e2, h1⟩ := HRA.out.lt (by rw [pcs_length, ofNs_length]; omega)
        rw [e] at e2
        injection e2 with e2
        rw [e2]; exact h1
      have HRL := hide hrl
      have HBB := hide (HB.out.fr0 hf1)
      have hblow : ∀ ad, B = some ad → 0 < dur.length → ad.block < w1.heap.size := fun ad e h0 => by
        obtain ⟨ob, oo, e2, h1⟩ := HBB.out.lt (by simpa using h0)
        rw [e] at e2
        injection e2 with e2
        rw [e2]; exact h1
      have HBL := hide hblow
      have HL2 := hide hlen2
      have hbk := Blk.new w1 65 #[.slice A L.length cp, .slice none 0 0, .slice none 0 0, .int .u64 0]
      have hfk : Fr [] w1 (w1.alloc (.cells #[.slice A L.length cp, .slice none 0 0, .slice none 0 0, .int .u64 0] 65)) := (Fr.refl _ _).alloc _
      have hpl : PlanAt (w1.alloc (.cells #[.slice A L.length cp, .slice none 0 0, .slice none 0 0, .int .u64 0] 65)) w1.heap.size w1.heap.size 0 A cp L ⟨[], 0⟩ :=
        ⟨.slice none 0 0, .slice none 0 0, hbk, HRA.out.fr0 hfk, own_nil _ _ _ _, own_nil _ _ _ _, Nat.le_refl _⟩
      rw [← hlen2]
      clear hrl hblow hbk hlen2
      go_wp2
      generalize (w1.alloc (.cells #[.slice A L.length cp, .slice none 0 0, .slice none 0 0, .int .u64 0] 65)) = w2 at hfk hpl ⊢
      obtain ⟨b, hbe⟩ : ∃ b, b = w1.heap.size := ⟨_, rfl⟩
      obtain ⟨base, hba⟩ : ∃ base, base = w1.heap.size := ⟨_, rfl⟩
      have hpl' : PlanAt w2 base b 0 A cp L ⟨[], 0⟩ := by rw [hbe, hba]; exact hpl
      rw [← hbe]
      have HBA := hide hba
      clear hpl hbe hba
      go_loopg [12] N (fun m i wr => PiRel w2 base b A cp L N m i wr)
      case atStart => exact ⟨0, by omega, rfl, hpl', .refl _ _, rfl⟩
      case round =>
        clear hpl'
        obtain ⟨k, hk, rfl, hpl, hfb, hmm⟩ := hrel
        have HM := hide hmm
        clear hmm
        by_cases hlt : k < N
        · have hkl : (k : Int) < (N : Int) := by omega
          obtain ⟨v, va, hin⟩ := hpl
          obtain ⟨A1, k1, rfl, -, -, -⟩ := own_slice hin.at_
          have c2 : wr.cell? ⟨b, 2, none⟩ = some (.slice A1 k k1) := hin.blk.cell 2
          have f2 := hin.blk.frozen 2
          have hbl := hin.blk.lt
          have HIN := hide hin
          have hsz : base ≤ wr.heap.size := by have := hin.low; omega
          have hvb : ∀ y, (Value.slice A1 k k1).ownBlock = some y → y ≠ b ∧ base ≤ y := fun y hy => by
            obtain ⟨h1, _, cs, hb⟩ := own_block hin.at_ hy
            exact ⟨Blk.ne_ hb hin.blk (by decide), h1⟩
          have HVB := hide hvb
          clear hin hvb
          go_wp2_with (first
            | (at_builtin
               refine wpList_append_row _ rfl (.tmp 40) (.tmp 41) _ rfl base 3 i1 (.int .i64 0) 1 8 Try.underlying45 HJ.out.1 HJ.out.2.1 HJ.out.2.2.1 HJ.out.2.2.2 rfl (by omega) (.slice A1 k k1) k (((List.range k).map (atOf [])).map iv) rfl
                 (own_fr HIN.out.at_ ((Fr.refl [] _).alloc _) (fun _ _ => by simp)) (some ⟨wr.heap.size, 0, none⟩) 1 1 [.int .i64 (-1)] rfl rfl (row_one wr _ _) (by intro u hu; simp at hu; subst hu; rfl) (by simp only [maxLen]; omega) (by omega) (by simp; omega) ?_
               intro v1 w9 hown9 hg9 hat9
               obtain ⟨A9, c9, rfl, -, -, -⟩ := own_slice hown9
               have hc9 := cell_grown ((Fr.refl [] wr).alloc (.cells #[.int .i64 (-1)] 3)) hg9 c2 (fun y hy => (HVB.out y hy).1)
               have hz9 := frozen_grown ((Fr.refl [] wr).alloc (.cells #[.int .i64 (-1)] 3)) hg9 f2 hbl (fun y hy => (HVB.out y hy).1)))
          go_roundg (N - (k + 1))
          case measure => rw [HM.out]; omega
          case rel =>
            refine ⟨k + 1, by omega, by go_num, ⟨_, _, HIN.out.grow (((Fr.refl _ wr).alloc _).trans (Fr.of_grown hg9)) hown9 (by rw [HBA.out]; exact HRL.out)⟩, ?_, rfl⟩
            refine ((hfb.trans (.of_fr ((Fr.refl _ wr).alloc _))).trans ⟨_, fun i hi => ?_, Fr.of_grown hg9⟩).set HIN.out.low _
            cases hv : (Value.slice A1 k k1).ownBlock with
            | none => rw [hv] at hi; cases hi
            | some y => rw [hv] at hi; rw [List.mem_singleton.1 hi]; exact (HVB.out y hv).2
        · have hkl : ¬ (k : Int) < (N : Int) := by omega
          obtain rfl : k = N := by omega
          have HPL := hide hpl
          clear hpl HM
          go_wp2
          go_loopg [] (2 * k) (fun m wq => RsRel w2 base b k V A cp L (durF dur) m wq)
          case atStart => exact ⟨⟨[], 0⟩, .init, HPL.out, hfb, by simp [measS]⟩
          case round =>
            clear HPL hfb
            obtain ⟨p, hrch, hat, hfb, hmm⟩ := hrel
            have HM := hide hmm
            have HRC := hide hrch
            have HINV := hide hrch.inv
            have HA := hide hat
            have hslen := hrch.inv.len
            clear hmm hrch hat
            go_wp2_with fail
            refine (rready31_any HA.out HINV.out hN HLT.out hll).mono ?_
            rintro e w3 ⟨rfl, hf3⟩
            go_wp2_with fail
            refine (rfree31_any (HA.out.fr0 hf3) HINV.out hN hW.2).mono ?_
            rintro e w4 ⟨rfl, hf4⟩
            have hfb4 : FrB base w2 w4 := hfb.trans (.of_fr (hf3.trans hf4))
            have HA4 := hide ((HA.out.fr0 hf3).fr0 hf4)
            clear hfb hf3 hf4 HA
            by_cases hbeg : (∃ d, rdy k L p = some d) ∧ ∃ f, fre V p = some f
            · obtain ⟨⟨d, h1⟩, f, h2⟩ := hbeg
              have HST := hide (step_begin (D := durF dur) h1 h2)
              have hdN := (rdy_some.1 h1).1
              have hkV := (fre_some.1 h2).1
              have hml := begin_len HINV.out h1 h2
              have HFRS := hide (rdyB_iff.1 (rdy_some.1 h1).2.1).1
              rw [h1, h2, optI_some, optI_some]
              clear h1 h2
              have hdl2 : d < dur.length := by omega
              obtain ⟨x, hx⟩ : ∃ x, dur[d]? = some x := ⟨_, List.getElem?_eq_getElem hdl2⟩
              have hxD : durF dur d = x := by simp [durF, List.getD_eq_getElem?_getD, hx]
              obtain ⟨ob, oo, e1, q1⟩ := (hfb4.row (HBB.out.fr0 hfk) (fun ad e => by rw [HBA.out]; exact HBL.out ad e (by omega))).uint hx
              have hobl := HBL.out _ e1 (by omega)
              rw [← HBA.out] at hobl
              simp only at hobl
              subst e1
              have kd : (d : Int) < (dur.length : Int) := by omega
              have HNL := hide (HG.out.now_le HINV.out).1
              have hDl := HG.out.durF_le d
              rw [hxD] at hDl
              unfold maxD at hDl
              have HXD := hide hxD
              clear hx hxD
              obtain ⟨v, va, hin⟩ := HA4.out
              obtain ⟨ga, ca, hva, hgb, hgblk, hgc, hgf, hgset⟩ := own_cell hin.at_ hdN
              subst hva
              have hgset' := hgset (.int .i64 (p.sl.length : Int))
              obtain ⟨A5, c5, rfl, -, -, -⟩ := own_slice hin.sl
              have e1 : w4.cell? ⟨b, 1, none⟩ = some (.slice A5 p.sl.length c5) := hin.blk.cell 1
              have e2 : w4.cell? ⟨b, 2, none⟩ = some (.slice (some ⟨ga, 0, none⟩) k ca) := hin.blk.cell 2
              have hbga : b ≠ ga := fun e => by
                obtain ⟨cs, hg⟩ := hgblk
                exact Blk.ne_ hg hin.blk (by decide) e.symm
              have hgc' : ∃ u, w4.cell? ⟨ga, d, none⟩ = some u := ⟨iv (atOf p.sl d), by rw [hgc]; simp [hdN]⟩
              obtain ⟨uu, hgc'⟩ := hgc'
              have hbA : Blk ((w4.setCell ⟨ga, d, none⟩ (.int .i64 (p.sl.length : Int))).drew) b _ _ := (hin.blk.far (p := ⟨ga, d, none⟩) hbga (.int .i64 (p.sl.length : Int))).drew
              have hownA := own_fr (own_fr hin.sl ((Fr.refl [ga] w4).set (p := ⟨ga, d, none⟩) (.inl (by simp)) (.int .i64 (p.sl.length : Int))) (fun y hy hm => by
                obtain ⟨_, _, cs, hb⟩ := own_block hin.sl hy
                obtain ⟨cs', hg⟩ := hgblk
                exact Blk.ne_ hb hg (by decide) (List.mem_singleton.1 hm))) ((Fr.refl [] _).drew) (fun _ _ => by simp)
              have hvb : ∀ y, (Value.slice A5 p.sl.length c5).ownBlock = some y → y ≠ b ∧ base ≤ y := fun y hy => by
                obtain ⟨h1, _, cs, hb⟩ := own_block hin.sl hy
                exact ⟨Blk.ne_ hb hin.blk (by decide), h1⟩
              have q1A := Fr.cell ((Fr.refl [ga] w4).set (p := ⟨ga, d, none⟩) (.inl (by simp)) (.int .i64 (p.sl.length : Int))).drew q1 (by simp; omega)
              have hfxA : FrB base w2 ((w4.setCell ⟨ga, d, none⟩ (.int .i64 (p.sl.length : Int))).drew) := (hfb4.set (p := ⟨ga, d, none⟩) hgb _).trans (.of_fr (Fr.refl [] _).drew)
              have HIN := hide hin
              have HGS := hide hgset'
              have HGB := hide (And.intro hgb hgblk)
              have HOWN := hide hownA
              have HVB := hide hvb
              have HBA2 := hide hbA
              have hlowb := hin.low
              have hbl4 := hin.blk.lt
              clear hin hgset hgset' hgc hownA hvb hbA hgblk
              have kdN : (d : Int) < (k : Int) := by omega
              go_wp2
              go_region
              clear hgc' hgf e1 e2 q1
              generalize hwx : ((w4.setCell ⟨ga, d, none⟩ (.int .i64 (p.sl.length : Int))).drew) = wx at HOWN HBA2 q1A hfxA ⊢
              have HWX := hide hwx
              clear hwx
              obtain ⟨tt, htt⟩ : ∃ tt, tt = p.now + x := ⟨_, rfl⟩
              have hxe : (p.now : Int) + (x : Int) = (tt : Int) := by omega
              have HTT := hide htt
              have hbnd : (p.now : Int) + (x : Int) ≤ 18446744073709551615 := by have := HNL.out; omega
              have hwr : IntKind.u64.wrap ((p.now : Int) + (x : Int)) = (tt : Int) := by rw [wrap_u64]; omega
              clear htt hxe hbnd
              have e1 : wx.cell? ⟨b, 1, none⟩ = some (.slice A5 p.sl.length c5) := HBA2.out.cell 1
              have e3 : wx.cell? ⟨b, 3, none⟩ = some (.int .u64 (p.now : Int)) := HBA2.out.cell 3
              have hfz := HBA2.out.frozen 1
              have hblx := HBA2.out.lt
              have n1 := Fr.cell ((Fr.refl [] wx).alloc (.cells #[.int .i64 (d : Int), .int .i64 (f : Int), .int .u64 (p.now : Int), .int .u64 (tt : Int)] 38)) e1 (by simp)
              have n3 := Fr.cell ((Fr.refl [] wx).alloc (.cells #[.int .i64 (d : Int), .int .i64 (f : Int), .int .u64 (p.now : Int), .int .u64 (tt : Int)] 38)) e3 (by simp)
              have nq1 := Fr.cell ((Fr.refl [] wx).alloc (.cells #[.int .i64 (d : Int), .int .i64 (f : Int), .int .u64 (p.now : Int), .int .u64 (tt : Int)] 38)) q1A (by simp)
              go_wp2
              go_region_law ((refine step_append_row _ (by rfl) (.tmp 71) (.tmp 88) _ (by rfl) base 38 i0 (.agg #[.int .i64 0, .int .i64 0, .int .u64 0, .int .u64 0]) 4 32 Try.underlying29 HI.out.1 HI.out.2.1 HI.out.2.2.1 HI.out.2.2.2 rfl (by omega) (.slice A5 p.sl.length c5) p.sl.length (scells p.sl) (by rfl) (own_fr HOWN.out (((Fr.refl [] wx).alloc _).drew) (fun _ _ => by simp)) (some ⟨wx.heap.size, 0, none⟩) 1 1 [.int .i64 (d : Int), .int .i64 (f : Int), .int .u64 (p.now : Int), .int .u64 (tt : Int)] (by rfl) rfl ((row_four' wx 38 (.int .i64 (d : Int)) (.int .i64 (f : Int)) (.int .u64 (p.now : Int)) (.int .u64 (tt : Int))).fr0 ((Fr.refl [] _).drew)) (by intro u hu; simp at hu; rcases hu with rfl | rfl | rfl | rfl <;> rfl) (by simp only [maxLen]; omega) (by omega) (by simp; omega) ?_; intro v1 w9 hown9 hg9 hat9; obtain ⟨A9, c9, rfl, -, -, -⟩ := own_slice hown9; have hc9 := cell_grown (((Fr.refl [] wx).alloc _).drew) hg9 e1 (fun y hy => (HVB.out y hy).1); have hc93 := cell_grown (((Fr.refl [] wx).alloc _).drew) hg9 e3 (fun y hy => (HVB.out y hy).1); have hcq := cell_grown (((Fr.refl [] wx).alloc _).drew) hg9 q1A (fun y hy => by have := (HVB.out y hy).2; simp; omega); have hz9 := frozen_grown (((Fr.refl [] wx).alloc _).drew) hg9 hfz hblx (fun y hy => (HVB.out y hy).1)))
              all_goals
                have hin := HIN.out.begin_ (w2 := w9) (v2 := .slice A9 (p.sl.length + 1) c9) (wk := f) (e := tt) HFRS.out HGB.out HGS.out (by
                  have h0 : Fr (Value.slice A5 p.sl.length c5).ownBlock.toList wx w9 := (((Fr.refl _ wx).alloc _).drew).trans (Fr.of_grown hg9)
                  rw [← HWX.out] at h0
                  exact ((Fr.refl _ _).drew).trans h0) (by rw [scells_snoc]; exact hown9) (by rw [HBA.out]; exact HRL.out)
                have hfw : FrB base w2 (w9.setCell ⟨b, 1, none⟩ (.slice A9 (p.sl.length + 1) c9)) := ((hfxA.trans (.of_fr (((Fr.refl _ wx).alloc _).drew))).trans ⟨_, fun i hi => by
                  cases hv : (Value.slice A5 p.sl.length c5).ownBlock with
                  | none => rw [hv] at hi; cases hi
                  | some y => rw [hv] at hi; rw [List.mem_singleton.1 hi]; exact (HVB.out y hv).2, Fr.of_grown hg9⟩).set hlowb _
                clear hown9 hg9 hat9 hc9 hc93 hcq hz9 e1 e3 hfz n1 n3 nq1 q1A
                go_wp2
                go_roundg (measS k (beginS (durF dur) p d f))
                case measure => rw [HM.out]; exact meas_begin hml
                case rel =>
                  refine ⟨_, .step HRC.out HST.out, ⟨.slice A9 (p.sl.length + 1) c9, .slice (some ⟨ga, 0, none⟩) k ca, ?_⟩, hfw, rfl⟩
                  unfold beginS
                  rw [HXD.out, ← HTT.out]
                  exact hin
            · have HNB : Hid (rdy k L p = none ∨ fre V p = none) := hide (by
                cases h1 : rdy k L p with
                | none => exact .inl rfl
                | some d =>
                  cases h2 : fre V p with
                  | none => exact .inr rfl
                  | some f => exact absurd ⟨⟨d, h1⟩, f, h2⟩ hbeg)
              have hcs : (¬ (0 : Int) ≤ optI (rdy k L p)) ∨ ((0 : Int) ≤ optI (rdy k L p) ∧ ¬ (0 : Int) ≤ optI (fre V p)) := by
                rcases HNB.out with h | h
                · rw [h]; exact .inl (by decide)
                · cases h1 : rdy k L p with
                  | none => exact .inl (by decide)
                  | some d => rw [h, optI_some]; exact .inr ⟨by omega, by decide⟩
              generalize optI (rdy k L p) = di at hcs ⊢
              generalize optI (fre V p) = fi at hcs ⊢
              clear hbeg
              rcases hcs with hdi | ⟨hdi, hfi⟩
              all_goals
                go_wp2
                go_loopg [15, 16] p.sl.length (fun m v i wq => RnRel w4 p m v i wq)
                case atStart => exact ⟨0, 0, by omega, rfl, rfl, .inl ⟨rfl, by simp⟩, rfl, rfl⟩
                case round =>
                  obtain ⟨j, t, hj, rfl, rfl, hnx, rfl, hmm⟩ := hrel
                  have HM2 := hide hmm
                  have HNX := hide hnx
                  clear hmm hnx
                  obtain ⟨v, va, hin⟩ := HA4.out
                  obtain ⟨A2, k2, rfl, -, hrs, -⟩ := own_slice hin.sl
                  have c1 : w4.cell? ⟨b, 1, none⟩ = some (.slice A2 p.sl.length k2) := hin.blk.cell 1
                  have c3 : w4.cell? ⟨b, 3, none⟩ = some (.int .u64 (p.now : Int)) := hin.blk.cell 3
                  have f3 := hin.blk.frozen 3
                  have HIN := hide hin
                  clear hin
                  by_cases hlt2 : j < p.sl.length
                  · obtain ⟨x, hx⟩ : ∃ x, p.sl[j]? = some x := ⟨_, List.getElem?_eq_getElem hlt2⟩
                    obtain ⟨ob, oo, e, hce⟩ := Row.el scell_len (by omega) hrs hx
                    subst e
                    have s3 : w4.cell? ⟨ob, oo + j * 4 + 3, none⟩ = some (.int .u64 (x.e : Int)) := hce 3 _ rfl
                    have hjl : (j : Int) < (p.sl.length : Int) := by omega
                    have HX := hide hx
                    clear hx hce hrs f3
                    by_cases hg : p.now < x.e
                    · have hgi : (p.now : Int) < (x.e : Int) := by omega
                      have hd1 : decide ((p.now : Int) < (x.e : Int)) = true := decide_eq_true hgi
                      by_cases ht0 : t = 0
                      · have hb0 : ((t : Int) == 0) = true := by simp [ht0]
                        have HT := hide (HNX.out.take HX.out hg (.inl ht0))
                        clear ht0 hg
                        go_wp2
                        go_roundg (p.sl.length - (j + 1))
                        case measure => rw [HM2.out]; omega
                        case rel => exact ⟨j + 1, x.e, by omega, rfl, by go_num, HT.out, rfl, rfl⟩
                      · have hb0 : ((t : Int) == 0) = false := by simp [ht0]
                        by_cases hlt3 : x.e < t
                        · have hl3 : (x.e : Int) < (t : Int) := by omega
                          have hd3 : decide ((x.e : Int) < (t : Int)) = true := decide_eq_true hl3
                          have HT := hide (HNX.out.take HX.out hg (.inr hlt3))
                          clear ht0 hg hlt3
                          go_wp2
                          go_roundg (p.sl.length - (j + 1))
                          case measure => rw [HM2.out]; omega
                          case rel => exact ⟨j + 1, x.e, by omega, rfl, by go_num, HT.out, rfl, rfl⟩
                        · have hl3 : ¬ (x.e : Int) < (t : Int) := by omega
                          have hd3 : decide ((x.e : Int) < (t : Int)) = false := decide_eq_false hl3
                          have HT := hide (HNX.out.skip HX.out (fun _ => ⟨by
                            rcases HNX.out with ⟨h1, _⟩ | ⟨_, h2, _⟩
                            · exact absurd h1 ht0
                            · exact h2, by omega⟩))
                          clear ht0 hg hlt3
                          go_wp2
                          go_roundg (p.sl.length - (j + 1))
                          case measure => rw [HM2.out]; omega
                          case rel => exact ⟨j + 1, t, by omega, rfl, by go_num, HT.out, rfl, rfl⟩
                    · have hgi : ¬ (p.now : Int) < (x.e : Int) := by omega
                      have hd1 : decide ((p.now : Int) < (x.e : Int)) = false := decide_eq_false hgi
                      have HT := hide (HNX.out.skip HX.out (fun h => absurd h hg))
                      clear hg
                      go_wp2
                      go_roundg (p.sl.length - (j + 1))
                      case measure => rw [HM2.out]; omega
                      case rel => exact ⟨j + 1, t, by omega, rfl, by go_num, HT.out, rfl, rfl⟩
                  · have hjl : ¬ (j : Int) < (p.sl.length : Int) := by omega
                    have hfin := HNX.out.fin (by omega)
                    by_cases ht0 : t = 0
                    · have hb0 : ((t : Int) == 0) = true := by simp [ht0]
                      rw [if_pos ht0] at hfin
                      have hpf := rch_fin HRC.out (step_stop (D := durF dur) HNB.out hfin)
                      have HPF := hide hpf
                      clear ht0 hfin hpf
                      go_wp2
                      go_ret2
                      have hsf : p.sl = sched k L (durF dur) V := by rw [HPF.out]; rfl
                      refine ⟨.slice A2 p.sl.length k2, ?_, ?_, ?_⟩
                      · rw [HRES.out]; rfl
                      · rw [HRES.out]
                        have ho := own_base HIN.out.sl (base' := w.heap.size) (by rw [HBA.out]; exact hf1.size)
                        rw [hsf] at ho
                        rw [hsf]
                        exact ho
                      · exact FrB.step (hf1.call hfk) hfb4 (by rw [HBA.out]; exact hf1.size)
                    · have hb0 : ((t : Int) == 0) = false := by simp [ht0]
                      rw [if_neg ht0] at hfin
                      have HST := hide (step_next (D := durF dur) HNB.out hfin)
                      have hme := meas_next (N := k) hfin
                      have hlowb := HIN.out.low
                      clear ht0 hfin
                      go_wp2
                      go_roundg (measS k ⟨p.sl, t⟩)
                      case measure => rw [HM.out]; exact hme
                      case rel =>
                        exact ⟨_, .step HRC.out HST.out, ⟨_, _, HIN.out.now_ (by rw [HBA.out]; exact HRL.out) t⟩, hfb4.set hlowb _, rfl⟩
  · have hcc : chkM n l dur W = rinM n l dur W := by
      by_cases h0 : W = 0
      · subst h0
        rw [rinM_zero_wk, if_neg hc]
      · exact (rinM_chk h0).symm
    have HM1 := hide (schedM_bad (n := n) (l := l) (dur := dur) (W := W) (by rw [hcc]; exact hc))
    rw [hcc] at HM1
    have hb : (rinM n l dur W != 0) = true := by simp [hc]
    clear hc hcc
    generalize rinM n l dur W = ee at hb HM1 ⊢
    go_wp2
    go_ret2
    exact ⟨.slice none 0 0, by rw [HM1.out]; rfl, by rw [HM1.out]; exact own_nil _ _ _ _, hf1⟩
end Go.Proofs.Ytinengemeppefaa

