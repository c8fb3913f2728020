/- Walks over the reference of layer 30: undo. -/
import Derived.Test.YtgbkgiglagfciaaSuspR3
import Derived.StillTailTactics
import Derived.Deep.RegionLaw
namespace Go.Proofs.Ytgbkgiglagfciaa
open Go.RowKit

def bU (p i : Nat) : Nat := (4 - p) * 20000 + i * 300
def bMax : Nat := 100000
theorem bU_le {p i : Nat} (h : i ≤ 64) : bU p i ≤ bMax := by unfold bU bMax; omega
theorem bU_step (p i : Nat) : bU p i + 256 ≤ bU p (i + 1) := by unfold bU; omega
theorem bU_row {p n : Nat} (h1 : 1 ≤ p) (h4 : p ≤ 4) (hn : n ≤ 64) : bU p n ≤ bU (p - 1) 0 := by unfold bU; omega
theorem bMax_ok {n : Nat} (h : n ≤ bMax + 256) : n + 1 ≤ maxLen ∧ (n + 1) * 16 ≤ 140737488355328 := by unfold bMax at h; unfold maxLen; omega
def undoTo (ord : List Nat) (good : List (Nat × Nat)) (p : Nat) : List (Nat × Nat) := ([4, 3, 2, 1].filter fun q => decide (p < q)).flatMap fun q => undoRow ord good q
def UndoAt (w : World) (b : Nat) (X : List Nat) (vo vg : Value) (dn : Bool) (c : Int) (pl : List (Nat × Nat)) (wr : World) : Prop :=
  ∃ A cp, Blk wr b 74 #[vo, .slice A pl.length cp, vg, .bool false, .bool false, .bool dn, .int .i64 c] ∧ wr.ownsRow w.heap.size 30 2 (.slice A pl.length cp) pl.length (opCells pl) ∧ Fr [b] w wr ∧ (∀ ad, A = some ad → ad.block ∉ X) ∧ b ∉ X ∧ ∀ g, g ∈ X → g < wr.heap.size
def blks (A : Option Addr) : List Nat := A.toList.map Addr.block
theorem off_blks {A : Option Addr} {L : List Nat} (h : ∀ g, g ∈ blks A → g ∉ L) : Off A L := fun ad e => h _ (by subst e; simp [blks])
def U1 (w : World) (b : Nat) (vo vg : Value) (dn : Bool) (c : Int) (ord : List Nat) (good : List (Nat × Nat)) (m : Nat) (v : Value) (wr : World) : Prop :=
  ∃ p : Nat, p ≤ 4 ∧ v = .int .i64 p ∧ UndoAt w b [] vo vg dn c (undoTo ord good p) wr ∧ (undoTo ord good p).length ≤ bU p 0 ∧ m = p
def U2 (w : World) (b : Nat) (vo vg : Value) (dn : Bool) (c : Int) (good : List (Nat × Nat)) (p : Nat) (pre back : List (Nat × Nat)) (A5 : Option Addr) (m : Nat) (v : Value) (wr : World) : Prop :=
  ∃ i : Nat, i ≤ back.length ∧ v = .int .i64 i ∧ UndoAt w b (blks A5) vo vg dn c (pre ++ (back.take i).flatMap fun x => hits good x (9 - p, x.2)) wr ∧ Row wr A5 (opCells back) ∧
    (pre ++ (back.take i).flatMap fun x => hits good x (9 - p, x.2)).length ≤ bU p i ∧ m = back.length - i
def U3 (w : World) (b : Nat) (vo vg : Value) (dn : Bool) (c : Int) (good : List (Nat × Nat)) (p : Nat) (pre : List (Nat × Nat)) (x : Nat × Nat) (back : List (Nat × Nat)) (A5 : Option Addr) (B : Nat) (m : Nat) (v : Value) (wr : World) : Prop :=
  ∃ k : Nat, k ≤ good.length ∧ v = .int .i64 k ∧ UndoAt w b (blks A5) vo vg dn c (pre ++ hits (good.take k) x (9 - p, x.2)) wr ∧ Row wr A5 (opCells back) ∧ (pre ++ hits (good.take k) x (9 - p, x.2)).length ≤ B + k ∧ m = good.length - k

def RefRet (w : World) (b : Nat) (F : List Nat) (R : RSeq) (v : Value) (r : Ending) (w' : World) : Prop :=
  r = .returned v ∧ ∃ F', RefAt w' b F' R ∧ Fr F w w' ∧ ∀ g, g ∈ F' → g ∈ F ∨ w.heap.size ≤ g

theorem undoAt_step {w w4 : World} {b : Nat} {vo vg : Value} {dn : Bool} {c : Int} {pl : List (Nat × Nat)} {q d : Nat} {A A4 : Option Addr} {cp cp4 : Nat}
    (hb : Blk w4 b 74 #[vo, .slice A pl.length cp, vg, .bool false, .bool false, .bool dn, .int .i64 c]) (hown : w4.ownsRow w.heap.size 30 2 (.slice A4 (pl.length + 1) cp4) (pl.length + 1) (opCells pl ++ [nv q, nv d]))
    (hf : Fr [b] w w4) {X : List Nat} (hx1 : ∀ ad, A4 = some ad → ad.block ∉ X) (hx2 : b ∉ X) (hx3 : ∀ g, g ∈ X → g < w4.heap.size) : UndoAt w b X vo vg dn c (pl ++ [(q, d)]) (w4.setCell ⟨b, 1, none⟩ (.slice A4 (pl.length + 1) cp4)) := by
  refine ⟨A4, cp4, ?_, ?_, hf.set (.inl (by simp)) _, hx1, hx2, fun g hg => by simpa using hx3 g hg⟩
  · rw [List.length_append]
    exact hb.set_ 1 _
  · rw [List.length_append, opCells_snoc]
    refine own_fr hown (S := [b]) ((Fr.refl _ _).set (.inl (by simp)) _) fun g hg hm => ?_
    obtain ⟨_, _, cs, h'⟩ := own_block hown hg
    have e : g = b := by simpa using hm
    subst e
    exact Blk.ne_ h' hb (by decide) rfl
theorem undoTo_pred {ord : List Nat} {good : List (Nat × Nat)} {p : Nat} (h1 : 1 ≤ p) (h4 : p ≤ 4) : undoTo ord good (p - 1) = undoTo ord good p ++ undoRow ord good p := by
  have : p = 1 ∨ p = 2 ∨ p = 3 ∨ p = 4 := by omega
  rcases this with rfl | rfl | rfl | rfl <;> simp [undoTo]
set_option maxHeartbeats 4000000 in
set_option maxRecDepth 100000 in
theorem rundo_any {b : Nat} {F : List Nat} {R : RSeq} {w : World} (c : Int) (h : RefAt w b F R) (hn : R.ord.length ≤ 64) (hg : R.good.length ≤ 256) :
    Calls Try.prog 48 #[.pointer (some ⟨b, 0, none⟩), .int .i64 c] w (RefRet w b F (R.undo c) (.tuple #[])) := by
  obtain ⟨i0, hi0, hz0, hz1, hz2⟩ := info_parts op_info
  have HI := hide (And.intro hi0 (And.intro hz0 (And.intro hz1 hz2)))
  clear hi0 hz0 hz1 hz2
  obtain ⟨vo, A, cp, vg, hb, hf, hcap, hp⟩ := h
  have f1 := hb.frozen 1
  have f3 := hb.frozen 3
  have f4 := hb.frozen 4
  have f6 := hb.frozen 6
  have c1 := hb.cell 1
  have c3 := hb.cell 3
  have c4 := hb.cell 4
  have c6 := hb.cell 6
  simp [refCells] at c1 c3 c4 c6
  obtain ⟨Ao, cpo, rfl, -, -, -⟩ := own_slice hp.own
  obtain ⟨Ag, cpg, rfl, -, -, -⟩ := own_slice hp.hgood
  have HB := hide hb
  have HP := hide hp
  clear hb hp
  go_enter Try.func48, Try.ntmps48
  go_wp2
  have hb1 := (((HB.out.set_ 3 (.bool false)).set_ 4 (.bool false)).set_ 6 (.int .i64 c)).set_ 1 (.slice none 0 0)
  have hfr1 : Fr [b] w ((((w.setCell ⟨b, 3, none⟩ (.bool false)).setCell ⟨b, 4, none⟩ (.bool false)).setCell ⟨b, 6, none⟩ (.int .i64 c)).setCell ⟨b, 1, none⟩ (.slice none 0 0)) :=
    ((((Fr.refl _ _).set (.inl (by simp)) _).set (.inl (by simp)) _).set (.inl (by simp)) _).set (.inl (by simp)) _
  generalize ((((w.setCell ⟨b, 3, none⟩ (.bool false)).setCell ⟨b, 4, none⟩ (.bool false)).setCell ⟨b, 6, none⟩ (.int .i64 c)).setCell ⟨b, 1, none⟩ (.slice none 0 0)) = w1 at hb1 hfr1 ⊢
  clear c1 c3 c4 c6 f1 f3 f4 f6
  go_loopg [4] 4 (fun m v wr => U1 w b (.slice Ao R.ord.length cpo) (.slice Ag R.good.length cpg) R.done c R.ord R.good m v wr)
  case atStart => exact ⟨4, by omega, rfl, ⟨none, 0, hb1, own_nil _ _ _ _, hfr1, (fun ad e => by cases e), by simp, (fun g hg => by cases hg)⟩, by simp [undoTo], rfl⟩
  case round =>
    obtain ⟨p, hp4, rfl, ⟨A1, cp1, hb2, hown2, hfr2, -, -, -⟩, hlen2, hm⟩ := hrel
    have HM := hide hm
    have HB2 := hide hb2
    have HOWN2 := hide hown2
    have HLEN2 := hide hlen2
    clear hm hlen2 hb1 hfr1
    by_cases hp1 : 1 ≤ p
    · have hpb : decide ((1 : Int) ≤ (p : Int)) = true := by simp; omega
      have hpe : ((p : Int) == 1) = (p == 1) := by rw [Bool.eq_iff_iff, beq_iff_eq, beq_iff_eq]; omega
      have c0 := hb2.cell 0
      simp at c0
      have hro : Row wr Ao (R.ord.map nv) := (Row.of_own (HP.out.frb HB.out hfr2).own)
      have HRO := hide hro
      clear hro hb2 hown2
      go_wp2_with fail
      refine (phase_any Ao cpo p R.ord _ wr HRO.out hn).mono ?_
      rintro e w2 ⟨v5, rfl, hown5, hfr5⟩
      obtain ⟨A5, cp5, rfl, -, hrow5, hlt5⟩ := own_slice hown5
      have hbl : (phaseL p R.ord (p == 1)).length = R.ord.length := by simp [phaseL]
      have hrow : undoRow R.ord R.good p = (phaseL p R.ord (p == 1)).flatMap fun x => hits R.good x (9 - p, x.2) := rfl
      have hto : undoTo R.ord R.good (p - 1) = undoTo R.ord R.good p ++ undoRow R.ord R.good p := undoTo_pred hp1 hp4
      rw [hrow] at hto
      clear hown5 hpe hrow
      generalize phaseL p R.ord (p == 1) = back at hbl hrow5 hto ⊢
      have HTO := hide hto
      have HBL := hide hbl
      have hat0 : UndoAt w b (blks A5) (.slice Ao R.ord.length cpo) (.slice Ag R.good.length cpg) R.done c (undoTo R.ord R.good p ++ (back.take 0).flatMap fun x => hits R.good x (9 - p, x.2)) w2 := by
        rw [List.take_zero, List.flatMap_nil, List.append_nil]
        refine ⟨A1, cp1, HB2.out.fr hfr5 (by simp), own_fr HOWN2.out hfr5 (by simp), hfr2.call hfr5, fun ad e hm => ?_, fun hm => ?_, fun g hm => ?_⟩
        · obtain ⟨ad5, h5, e5⟩ := List.mem_map.1 hm
          have h1 := (hlt5 ad5 (by simpa using h5)).1
          have h2 := (own_block HOWN2.out (g := ad.block) (by rw [e]; rfl)).2.1
          omega
        · obtain ⟨ad5, h5, e5⟩ := List.mem_map.1 hm
          have h1 := (hlt5 ad5 (by simpa using h5)).1
          have h2 := HB2.out.lt
          omega
        · obtain ⟨ad5, h5, e5⟩ := List.mem_map.1 hm
          have h1 := (hlt5 ad5 (by simpa using h5)).2
          omega
      have hln0 : (undoTo R.ord R.good p ++ (back.take 0).flatMap fun x => hits R.good x (9 - p, x.2)).length ≤ bU p 0 := by
        rw [List.take_zero, List.flatMap_nil, List.append_nil]
        exact HLEN2.out
      have HAT0 := hide hat0
      have HLN0 := hide hln0
      clear hat0 hln0 hto hbl HLEN2 HB2 HOWN2 hfr2 hfr5 HRO c0 hlt5
      generalize undoTo R.ord R.good p = pre at HAT0 HLN0 HTO
      go_wp2
      go_loopg [6] R.ord.length (fun m v wi => U2 w b (.slice Ao R.ord.length cpo) (.slice Ag R.good.length cpg) R.done c R.good p pre back A5 m v wi)
      case atStart => exact ⟨0, Nat.zero_le _, rfl, HAT0.out, hrow5, HLN0.out, by rw [HBL.out]; rfl⟩
      case round =>
        obtain ⟨i, hi, rfl, hat2, hrow6, hln2, hm2⟩ := hrel
        have HM2 := hide hm2
        have HAT2 := hide hat2
        have HLN2 := hide hln2
        clear hm2 hat2 hln2 HAT0 HLN0 hrow5
        by_cases hil : i < R.ord.length
        · obtain ⟨x, hx⟩ : ∃ x, back[i]? = some x := ⟨_, List.getElem?_eq_getElem (by rw [HBL.out]; exact hil)⟩
          have hts : ∀ gd : List (Nat × Nat), (back.take (i + 1)).flatMap (fun x => hits gd x (9 - p, x.2)) = (back.take i).flatMap (fun x => hits gd x (9 - p, x.2)) ++ hits gd x (9 - p, x.2) := fun gd => by
            rw [List.take_add_one, hx]
            simp
          have HTS := hide hts
          have HX := hide hx
          clear hts hx
          have hat3 : UndoAt w b (blks A5) (.slice Ao R.ord.length cpo) (.slice Ag R.good.length cpg) R.done c ((pre ++ (back.take i).flatMap fun x => hits R.good x (9 - p, x.2)) ++ hits (R.good.take 0) x (9 - p, x.2)) wr := by
            simp only [List.take_zero, hits, List.filter_nil, List.map_nil, List.append_nil]
            exact HAT2.out
          have HAT3 := hide hat3
          have hln3 : ((pre ++ (back.take i).flatMap fun x => hits R.good x (9 - p, x.2)) ++ hits (R.good.take 0) x (9 - p, x.2)).length ≤ bU p i + 0 := by
            simp only [List.take_zero, hits, List.filter_nil, List.map_nil, List.append_nil, Nat.add_zero]
            exact HLN2.out
          have HLN3 := hide hln3
          clear hat3 hln3 HAT2 HLN2
          have hB := bU_le (p := p) (i := i) (by omega)
          generalize hBB : bU p i = B at HLN3 hB
          have HBB := hide hBB
          clear hBB
          generalize hpre : (pre ++ (back.take i).flatMap fun x => hits R.good x (9 - p, x.2)) = pre2 at HAT3 HLN3
          have HPRE := hide hpre
          clear hpre
          go_wp2
          go_loopg [7] R.good.length (fun m v wi => U3 w b (.slice Ao R.ord.length cpo) (.slice Ag R.good.length cpg) R.done c R.good p pre2 x back A5 B m v wi)
          case atStart => exact ⟨0, Nat.zero_le _, rfl, HAT3.out, hrow6, HLN3.out, rfl⟩
          case round =>
            obtain ⟨k, hk, rfl, ⟨A1, cp1, hb2, hown2, hfr2, hx1, hx2, hx3⟩, hrow7, hln4, hm3⟩ := hrel
            have HX1 := hide hx1
            have HX2 := hide hx2
            have HX3 := hide hx3
            clear hx1 hx2 hx3
            have HM3 := hide hm3
            generalize hpl : pre2 ++ hits (R.good.take k) x (9 - p, x.2) = pl at hb2 hown2 hln4
            have hplb := Nat.le_trans hln4 (Nat.add_le_add hB (Nat.le_trans hk hg))
            have HPL := hide hpl
            have HLN4 := hide hln4
            have HPLB := hide (bMax_ok hplb)
            clear hpl hln4 hplb
            have HB2 := hide hb2
            have HOWN2 := hide hown2
            have c1 := hb2.cell 1
            have c2 := hb2.cell 2
            have f1 := hb2.frozen 1
            simp at c1 c2
            have hgood := (HP.out.frb HB.out hfr2).hgood
            have HGOOD := hide hgood
            clear hm3 hb2 hown2 hgood HAT3 HLN3 hrow6
            by_cases hkl : k < R.good.length
            · obtain ⟨y, hy⟩ : ∃ y, R.good[k]? = some y := ⟨_, List.getElem?_eq_getElem hkl⟩
              have hhs : hits (R.good.take (k + 1)) x (9 - p, x.2) = hits (R.good.take k) x (9 - p, x.2) ++ (if y = x then [(9 - p, x.2)] else []) := by
                rw [List.take_add_one, hy]
                unfold hits
                rw [List.filter_append, List.map_append]
                congr 1
                by_cases e : y = x <;> simp [e]
              have HHS := hide hhs
              clear hhs
              have hgr := Row.of_own HGOOD.out
              obtain ⟨gb, go, rfl, g1⟩ := hgr.at_ (opCells_get hy).1
              obtain ⟨_, _, e, g2⟩ := hgr.at_ (opCells_get hy).2
              cases e
              obtain ⟨xb, xo, rfl, x1⟩ := hrow7.at_ (opCells_get HX.out).1
              obtain ⟨_, _, e, x2⟩ := hrow7.at_ (opCells_get HX.out).2
              cases e
              obtain ⟨xp, xd⟩ := x
              obtain ⟨yp, yd⟩ := y
              simp only at g1 g2 x1 x2
              rw [← Nat.add_assoc] at g2 x2
              clear hy hgr
              have i1 : (k : Int) < (R.good.length : Int) := by omega
              have i2 : (i : Int) < (R.ord.length : Int) := by omega
              by_cases e1 : yp = xp
              · subst e1
                by_cases e2 : yd = xd
                · subst e2
                  go_wp2
                  go_quiet (fail)
                  go_wp2
                  have hb3 := HB2.out.drewN nq
                  have hown3 := own_fr HOWN2.out ((Fr.refl [] _).drewN nq) (by simp)
                  have hfr3 := hfr2.drewN nq
                  have hrow8 := hrow7.fr0 ((Fr.refl [] _).drewN nq)
                  have d1 : (wr.drewN nq).cell? ⟨b, 1, none⟩ = _ := c1
                  have d2 : (wr.drewN nq).cell? ⟨xb, xo + i * 2 + 1, none⟩ = _ := x2
                  have d3 : (wr.drewN nq).frozen? ⟨b, 1, none⟩ = _ := f1
                  have hsz33 : wr.heap.size ≤ (wr.drewN nq).heap.size := Nat.le_refl _
                  generalize wr.drewN nq = w3 at hb3 hown3 hfr3 hrow8 d1 d2 d3 hsz33 ⊢
                  clear c1 c2 f1 g1 g2 x1 x2 hrow7 hfr2 HB2 HOWN2
                  have HB3 := hide hb3
                  have HOWN3 := hide hown3
                  clear hb3 hown3
                  have i3 : IntKind.i64.wrap (9 - (p : Int)) = 9 - (p : Int) := IntWalk.i64_in _ (by omega)
                  have e9 : ((9 : Int) - (p : Int)) = ((9 - p : Nat) : Int) := by omega
                  have HE9 := hide e9
                  clear e9
                  have hkeep : ∀ (v1 : Value) (w4 : World), w4.ownsRow w.heap.size 30 2 v1 (pl.length + 1) (opCells pl ++ [nv (9 - p), nv yd]) → ((w3.alloc (.cells #[nv (9 - p), nv yd] 30)).drew).grownBy w4 (Value.ownBlock (.slice A1 pl.length cp1)) →
                      Blk w4 b 74 #[.slice Ao R.ord.length cpo, .slice A1 pl.length cp1, .slice (some ⟨gb, go, none⟩) R.good.length cpg, .bool false, .bool false, .bool R.done, .int .i64 c] ∧ Fr (Value.ownBlock (.slice A1 pl.length cp1)).toList w3 w4 := by
                    intro v1 w4 h1 h2
                    have hf4 : Fr (Value.ownBlock (.slice A1 pl.length cp1)).toList w3 w4 := (((Fr.refl _ _).alloc _).drew).grown h2 (fun g e => .inl (by rw [e]; simp))
                    refine ⟨HB3.out.fr hf4 (fun hm => ?_), hf4⟩
                    obtain ⟨_, _, cs, hbb⟩ := own_block HOWN3.out (g := b) (by simpa using hm)
                    exact Blk.ne_ hbb HB3.out (by decide) rfl
                  have HKEEP := hide hkeep
                  clear hkeep
                  have hsz3 := hfr3.size
                  have hbl3 := HB3.out.lt
                  have hxl3 := World.block_lt_of_cell? w3 _ d2
                  simp only at hxl3
                  go_region_law ((refine step_append_row _ (by rfl) (.tmp 64) (.tmp 73) 31 (by rfl) w.heap.size 30 i0 (.agg #[.int .i64 0, .int .i64 0]) 2 16 Try.underlying31 HI.out.1 HI.out.2.1 HI.out.2.2.1 HI.out.2.2.2 rfl (by omega) (.slice A1 pl.length cp1) pl.length (opCells pl) (by rfl) (by exact own_fr HOWN3.out (((Fr.refl [] _).alloc _).drew) (by simp)) (some ⟨w3.heap.size, 0, none⟩) 1 1 [nv (9 - p), nv yd] (by rfl) (by rfl) (by rw [HE9.out]; exact row_lit _ _ _ rfl) (one2 _ _) HPLB.out.1 HPLB.out.2 (by simp; omega) ?_; intro v1 w4 hown4 hg4 hat4; rw [HE9.out] at hg4; obtain ⟨hb4, hf4⟩ := HKEEP.out v1 w4 hown4 hg4; obtain ⟨A4, cp4, rfl, -, -, -⟩ := own_slice hown4; have d4 := hb4.cell 1; have d5 := hb4.frozen 1; simp at d4))
                  all_goals
                    go_wp2
                    go_roundg (R.good.length - (k + 1))
                    case measure => rw [HM3.out]; omega
                    case rel =>
                      have hq : pre2 ++ hits (R.good.take (k + 1)) (yp, yd) (9 - p, yd) = pl ++ [(9 - p, yd)] := by
                        rw [HHS.out, ← HPL.out]
                        simp
                      unfold U3
                      refine ⟨k + 1, by omega, by go_num, ?_, ?_, ?_, rfl⟩
                      · show UndoAt w b _ _ _ _ _ (pre2 ++ hits (R.good.take (k + 1)) (yp, yd) (9 - p, yd)) _
                        rw [hq]
                        refine undoAt_step hb4 hown4 (hfr3.step hf4 (fun g hg => .inr (own_block HOWN3.out (g := g) (by simpa using hg)).1)) (fun ad e hm => ?_) HX2.out (fun g hg => Nat.lt_of_lt_of_le (HX3.out g hg) ?_)
                        · rcases hat4 with e4 | e4
                          · cases A1 with
                            | none => rw [e] at e4; simp [Value.ownBlock] at e4
                            | some a1 =>
                              rw [e] at e4
                              simp [Value.ownBlock] at e4
                              exact HX1.out a1 rfl (by rw [← e4]; exact hm)
                          · rw [e] at e4
                            simp [Value.ownBlock] at e4
                            have := HX3.out _ hm
                            have := hsz33
                            omega
                        · have := hf4.size
                          omega
                      · refine (hrow8.fr hf4 (off_blks fun g hg hm => ?_)).fr (S := [b]) ((Fr.refl _ _).set (.inl (by simp)) _) (off_blks fun g hg hm => ?_)
                        · cases A1 with
                          | none => simp [Value.ownBlock] at hm
                          | some a1 =>
                            simp [Value.ownBlock] at hm
                            exact HX1.out a1 rfl (by rw [← hm]; exact hg)
                        · have e : g = b := by simpa using hm
                          subst e
                          exact HX2.out hg
                      · show (pre2 ++ hits (R.good.take (k + 1)) (yp, yd) (9 - p, yd)).length ≤ _
                        rw [hq, List.length_append]
                        have := HLN4.out
                        simp
                        omega
                · go_wp2
                  go_quiet (fail)
                  go_wp2
                  go_roundg (R.good.length - (k + 1))
                  case measure => rw [HM3.out]; omega
                  case rel =>
                    have hq : pre2 ++ hits (R.good.take (k + 1)) (yp, xd) (9 - p, xd) = pl := by
                      rw [HHS.out, ← HPL.out]
                      simp [e2]
                    refine ⟨k + 1, by omega, by go_num, ?_, hrow7.fr0 ((Fr.refl [] _).drewN _), ?_, rfl⟩
                    · show UndoAt w b _ _ _ _ _ (pre2 ++ hits (R.good.take (k + 1)) (yp, xd) (9 - p, xd)) _
                      rw [hq]
                      exact ⟨A1, cp1, HB2.out.drewN _, own_fr HOWN2.out ((Fr.refl [] _).drewN _) (by simp), hfr2.drewN _, HX1.out, HX2.out, HX3.out⟩
                    · show (pre2 ++ hits (R.good.take (k + 1)) (yp, xd) (9 - p, xd)).length ≤ _
                      rw [hq]
                      have := HLN4.out
                      omega
              · go_wp2
                go_quiet (fail)
                go_wp2
                go_roundg (R.good.length - (k + 1))
                case measure => rw [HM3.out]; omega
                case rel =>
                  have hq : pre2 ++ hits (R.good.take (k + 1)) (xp, xd) (9 - p, xd) = pl := by
                    rw [HHS.out, ← HPL.out]
                    simp [e1]
                  refine ⟨k + 1, by omega, by go_num, ?_, hrow7.fr0 ((Fr.refl [] _).drewN _), ?_, rfl⟩
                  · show UndoAt w b _ _ _ _ _ (pre2 ++ hits (R.good.take (k + 1)) (xp, xd) (9 - p, xd)) _
                    rw [hq]
                    exact ⟨A1, cp1, HB2.out.drewN _, own_fr HOWN2.out ((Fr.refl [] _).drewN _) (by simp), hfr2.drewN _, HX1.out, HX2.out, HX3.out⟩
                  · show (pre2 ++ hits (R.good.take (k + 1)) (xp, xd) (9 - p, xd)).length ≤ _
                    rw [hq]
                    have := HLN4.out
                    omega
            · have hkg : k = R.good.length := by omega
              have hq : pre2 ++ hits R.good x (9 - p, x.2) = pl := by
                rw [← HPL.out, hkg, List.take_length]
              have HQ := hide hq
              clear hkg hq
              go_wp2
              go_roundg (back.length - (i + 1))
              case measure => rw [HM2.out, HBL.out]; omega
              case rel =>
                have hq2 : pre ++ (back.take (i + 1)).flatMap (fun x => hits R.good x (9 - p, x.2)) = pl := by
                  rw [HTS.out, ← List.append_assoc, HPRE.out, HQ.out]
                refine ⟨i + 1, by rw [HBL.out]; omega, by go_num, ?_, hrow7, ?_, rfl⟩
                · rw [hq2]
                  exact ⟨A1, cp1, HB2.out, HOWN2.out, hfr2, HX1.out, HX2.out, HX3.out⟩
                · rw [hq2]
                  have h1 := HLN4.out
                  have h2 := bU_step p i
                  rw [HBB.out] at h2
                  omega
        · have hin : i = R.ord.length := by have := HBL.out; omega
          have hq : undoTo R.ord R.good (p - 1) = pre ++ (back.take i).flatMap fun x => hits R.good x (9 - p, x.2) := by
            rw [HTO.out, hin, ← HBL.out, List.take_length]
          have hle : (undoTo R.ord R.good (p - 1)).length ≤ bU (p - 1) 0 := by
            rw [hq]
            exact Nat.le_trans HLN2.out (by rw [hin]; exact bU_row hp1 hp4 hn)
          have HQ := hide hq
          have HLE := hide hle
          obtain ⟨A1, cp1, hb2, hown2, hfr2, -, -, -⟩ := HAT2.out
          rw [← hq] at hb2 hown2
          have HB2 := hide hb2
          have HOWN2 := hide hown2
          clear hin hq hle hb2 hown2
          have hps : (p : Int) - 1 = ((p - 1 : Nat) : Int) := by omega
          have HPS := hide hps
          clear hps
          go_wp2
          go_roundg (p - 1)
          case measure => rw [HM.out]; omega
          case rel => exact ⟨p - 1, by omega, by rw [HPS.out], ⟨A1, cp1, HB2.out, HOWN2.out, hfr2, (fun ad e => by simp), by simp, (fun g hg => by cases hg)⟩, HLE.out, rfl⟩
    · have hp0 : p = 0 := by omega
      subst hp0
      have hpb : decide ((1 : Int) ≤ ((0 : Nat) : Int)) = false := by simp
      have hpl0 : undoTo R.ord R.good 0 = undoPlan R.ord R.good := by simp [undoTo, undoPlan]
      rw [hpl0] at hown2 HB2 HOWN2 HLEN2 hb2
      have hpb2 := hide (Nat.le_trans HLEN2.out (bU_le (p := 0) (i := 0) (by omega)))
      have href : RefAt wr b (F ++ (blks A1)) { R with down := false, sleeps := false, code := c, plan := undoPlan R.ord R.good } := by
        have hpp := HP.out.frb HB.out hfr2
        refine ⟨_, A1, cp1, _, HB2.out, by simp [hf], own_cap HOWN2.out, ⟨hpp.own, PlanAt.of_own HOWN2.out, hpp.hgood, fun _ ad e hm => ?_, fun g hg => by simp [hpp.fo g hg], fun _ ad e => by simp [blks, e], fun g hg => by simp [hpp.fg g hg]⟩⟩
        have h1 := (own_block HOWN2.out (g := ad.block) (by rw [e]; rfl)).1
        have h2 := (own_block HP.out.hgood (g := ad.block) hm).2.1
        omega
      have HREF := hide href
      clear hb2 hown2 href hpl0
      go_wp2_with fail
      refine (settle_any HREF.out).mono ?_
      rintro e w3 ⟨rfl, hat, hfr3⟩
      go_wp2
      go_end0
      refine ⟨rfl, _, hat, ?_, fun g hg => ?_⟩
      · exact (hfr2.mono (fun k _ hk => by simp at hk; subst hk; exact hf)).step hfr3 (fun i hi => .inl (by simp at hi; subst hi; exact hf))
      · rcases List.mem_append.1 hg with h1 | h1
        · exact .inl h1
        · obtain ⟨ad, h2, rfl⟩ := List.mem_map.1 h1
          exact .inr (own_block HOWN2.out (g := ad.block) (by simp at h2; rw [h2]; rfl)).1
end Go.Proofs.Ytgbkgiglagfciaa
