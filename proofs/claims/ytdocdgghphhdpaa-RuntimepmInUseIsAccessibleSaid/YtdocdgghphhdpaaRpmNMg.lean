/- Walks: runtimepm.New. -/
import Derived.Test.YtdocdgghphhdpaaRpmTMg
import Derived.Test.YtdocdgghphhdpaaMgRpInUse11
import Derived.Test.YtdocdgghphhdpaaRpmW1Mg
import Derived.IntWalk
import Derived.StillTailTactics
import Derived.Deep.DeepCutAuto
namespace Go.Proofs.Ytdocdgghphhdpaa
open Go.RowKit

def NewRet (w : World) (l : List ID) (e : Ending) (w' : World) : Prop :=
  (newE l ≠ 0 ∧ e = .returned (.tuple #[.pointer none, .int .i64 (newE l)]) ∧ Fr [] w w') ∨
  (newE l = 0 ∧ ∃ P : ML, e = .returned (.tuple #[.pointer (some ⟨P.b, 0, none⟩), .int .i64 0]) ∧ MgIn w' P (newRM l) zeroS ∧ P.bot = w.heap.size ∧ P.top ≤ w'.heap.size ∧ Fr [] w w')
def N1Rel (w : World) (l : List ID) (m : Nat) (t i : Value) (wr : World) : Prop :=
  ∃ k : Nat, k ≤ l.length ∧ i = .int .i64 (k : Int) ∧ t = .int .i64 ((idLinks 0 (l.take k)).length : Int) ∧ (∀ d ∈ l.take k, idOk l.length d) ∧ Fr [] w wr ∧ m = l.length - k
theorem row_two (w : World) (t : TypeId) (a b : Value) : Row (w.alloc (.cells #[a, b] t)) (some ⟨w.heap.size, 0, none⟩) [a, b] := row_lit w #[a, b] t rfl
theorem link_info : (Try.prog.info? 76).map (fun i => (i.zero, i.size, i.bytes)) = some (some (.agg #[.int .i64 0, .int .i64 0]), 2, 16) := by kernel_rfl
def N2Cut (w w1 : World) (l : List ID) (k : Nat) (x : ID) (gd : Nat) (v : Value) (wx : World) : Prop :=
  ∃ L : List (Int × Int), L = idLinks 0 (l.take k) ++ (if 0 ≤ x.par then [((k : Int), x.par)] else []) ∧ wx.ownsRow w.heap.size 76 2 v L.length (pcs L) ∧ (∃ A7 c7, v = .slice A7 L.length c7) ∧ wx.heap[gd]? = w1.heap[gd]? ∧ Fr [] w wx
def N2Rel (w : World) (l : List ID) (m : Nat) (t i : Value) (wr : World) : Prop :=
  ∃ k : Nat, k ≤ l.length ∧ i = .int .i64 (k : Int) ∧ wr.ownsRow w.heap.size 76 2 t (idLinks 0 (l.take k)).length (pcs (idLinks 0 (l.take k))) ∧ Fr [] w wr ∧ m = l.length - k
def N3Rel (w : World) (L : List (Int × Int)) (k : Nat) (sup : List Int) (m : Nat) (t i : Value) (wr : World) : Prop :=
  ∃ j : Nat, j ≤ sup.length ∧ i = .int .i64 (j : Int) ∧ wr.ownsRow w.heap.size 76 2 t (L ++ (sup.take j).map fun s => ((k : Int), s)).length (pcs (L ++ (sup.take j).map fun s => ((k : Int), s))) ∧ Fr [] w wr ∧ m = sup.length - j
def N4Rel (w4 : World) (base g : Nat) (l : List ID) (m : Nat) (i : Value) (wr : World) : Prop :=
  ∃ k : Nat, k ≤ l.length ∧ i = .int .i64 (k : Int) ∧ TabIn wr base g { newRM l with dl := dlTo l k } nilV (fun _ => []) ∧ Fr [g] w4 wr ∧ m = l.length - k
def N5Rel (w4 : World) (base g : Nat) (l : List ID) (L : List (Int × Int)) (m : Nat) (i : Value) (wr : World) : Prop :=
  ∃ (k : Nat) (V : Nat → Value), k ≤ L.length ∧ i = .int .i64 (k : Int) ∧ TabIn wr base g (newRM l) V (FL (toNs (L.take k))) ∧ Fr [g] w4 wr ∧ m = L.length - k
set_option maxHeartbeats 8000000 in
set_option maxRecDepth 100000 in
theorem new28_any (A : Option Addr) (cp : Nat) (l : List ID) (w : World) (hr : IdsAt w A l) (hl : l.length ≤ 20) (hs : ∀ x ∈ l, x.sup.length ≤ 21) :
    Calls Try.prog 42 #[.slice A l.length cp] w (NewRet w l) := by
  have HR := hide hr
  have HS := hide hs
  obtain ⟨i0, hi0, hz0, hz1, hz2⟩ := info_parts link_info
  have HI := hide (And.intro hi0 (And.intro hz0 (And.intro hz1 hz2)))
  obtain ⟨i1, hi10, hz10, hz11, hz12⟩ := info_parts int_info1
  have HI1 := hide (And.intro hi10 (And.intro hz10 (And.intro hz11 hz12)))
  clear hi10 hz10 hz11 hz12
  clear hr hs hi0 hz0 hz1 hz2
  go_enter Try.func42, Try.ntmps42
  go_wp2
  go_loopg [4, 24] l.length (fun m t i wr => N1Rel w l m t i wr)
  case atStart => exact ⟨0, by omega, rfl, rfl, (fun d hd => by cases hd), Fr.refl _ _, rfl⟩
  case round =>
    obtain ⟨k, hk, rfl, rfl, hok, hfr, hmm⟩ := hrel
    have HM := hide hmm
    have HOK := hide hok
    clear hmm hok
    have hbd := idLinks_bound (B := 21) 0 (l.take k) (fun d hd => HS.out d (List.mem_of_mem_take hd))
    have htl : (l.take k).length ≤ 20 := by rw [List.length_take]; omega
    have hT : (idLinks 0 (l.take k)).length ≤ 440 := by omega
    clear hbd htl
    by_cases hlt : k < l.length
    · obtain ⟨x, hx⟩ : ∃ x, l[k]? = some x := ⟨_, List.getElem?_eq_getElem hlt⟩
      obtain ⟨ob, oo, A', cp', rfl, -, c0, c1, c2, -⟩ := (HR.out.fr0 hfr).el hx
      have HX := hide hx
      have hkl : (k : Int) < (l.length : Int) := by omega
      have hsx := HS.out x (List.mem_of_getElem? hx)
      have hsb : decide (1024 < x.sup.length) = false := by simp; omega
      have HTK := hide (idLinks_take hx)
      have HLL := hide (linkOf_len k x)
      clear hx
      by_cases hv : idOk l.length x
      · have b1 : decide (x.par < -1) = false := by simp; exact hv.1
        have b2 : decide ((l.length : Int) ≤ x.par) = false := by simp; exact hv.2.1
        have b3 : decide (1048576 < x.dl) = false := by simp; exact hv.2.2
        have b4 : decide ((1048576 : Int) < (x.dl : Int)) = false := by have := hv.2.2; simp; omega
        have HV := hide hv
        clear hv
        by_cases h0 : 0 ≤ x.par
        · rw [if_pos h0] at HLL
          go_wp2
          go_roundg (l.length - (k + 1))
          case measure => rw [HM.out]; omega
          case rel =>
            refine ⟨k + 1, by omega, by go_num, ?_, fun d hd => ?_, hfr.alloc _, rfl⟩
            · rw [HTK.out, List.length_append, HLL.out]
              congr 1
              omega
            · rw [take_succ_some HX.out] at hd
              rcases List.mem_append.1 hd with hd | hd
              · exact HOK.out d hd
              · rw [List.mem_singleton.1 hd]; exact HV.out
        · rw [if_neg h0] at HLL
          go_wp2
          go_roundg (l.length - (k + 1))
          case measure => rw [HM.out]; omega
          case rel =>
            refine ⟨k + 1, by omega, by go_num, ?_, fun d hd => ?_, hfr.alloc _, rfl⟩
            · rw [HTK.out, List.length_append, HLL.out]
              congr 1
              omega
            · rw [take_succ_some HX.out] at hd
              rcases List.mem_append.1 hd with hd | hd
              · exact HOK.out d hd
              · rw [List.mem_singleton.1 hd]; exact HV.out
      · have HE : Hid (newE l = 1) := hide (by
          unfold newE
          rw [if_neg (fun h => hv (h x (List.mem_of_getElem? HX.out)))])
        by_cases h1 : x.par < -1
        · have b1 : decide (x.par < -1) = true := by simpa using h1
          clear hv
          go_wp2
          go_ret2
          exact .inl ⟨by rw [HE.out]; decide, by rw [HE.out]; rfl, hfr.alloc _⟩
        · have b1 : decide (x.par < -1) = false := by simpa using h1
          by_cases h2 : (l.length : Int) ≤ x.par
          · have b2 : decide ((l.length : Int) ≤ x.par) = true := by simpa using h2
            clear hv
            go_wp2
            go_ret2
            exact .inl ⟨by rw [HE.out]; decide, by rw [HE.out]; rfl, hfr.alloc _⟩
          · have b2 : decide ((l.length : Int) ≤ x.par) = false := by simpa using h2
            have h3 : ¬ x.dl ≤ 1048576 := fun h => hv ⟨by omega, by omega, h⟩
            have b3 : decide (1048576 < x.dl) = true := by simp; omega
            have b4 : decide ((1048576 : Int) < (x.dl : Int)) = true := by simp; omega
            clear hv
            go_wp2
            go_ret2
            exact .inl ⟨by rw [HE.out]; decide, by rw [HE.out]; rfl, hfr.alloc _⟩
    · obtain rfl : k = l.length := by omega
      rw [List.take_length] at HOK hT
      have HALL := HOK
      have hTi : ((idLinks 0 l).length : Int) ≤ 440 := by omega
      have hTd : decide (1024 < (idLinks 0 l).length) = false := by simp; omega
      rw [List.take_length]
      clear HM HOK hk
      go_wp2
      go_loopg [7, 64] l.length (fun m t i wr => N2Rel w l m t i wr)
      case atStart => exact ⟨0, by omega, rfl, own_nil _ _ _ _, hfr, rfl⟩
      case round =>
        obtain ⟨k, hk, rfl, hown, hfr, hmm⟩ := hrel
        have HM := hide hmm
        have HOWN := hide hown
        obtain ⟨A7, c7, rfl, -, -, -⟩ := own_slice hown
        clear hmm hown
        by_cases hlt : k < l.length
        · obtain ⟨x, hx⟩ : ∃ x, l[k]? = some x := ⟨_, List.getElem?_eq_getElem hlt⟩
          obtain ⟨ob, oo, A', cp', rfl, esv, c0, c1, c2, -⟩ := (HR.out.fr0 hfr).el hx
          have hrs : Row w A' (x.sup.map (Value.int .i64)) := by
            obtain ⟨A2, cp2, e3, hrs0⟩ := HR.out.2 x (List.mem_of_getElem? hx)
            rw [esv] at e3
            injection e3 with e3
            rw [e3]
            exact hrs0
          have HX := hide hx
          have hkl : (k : Int) < (l.length : Int) := by omega
          have hsx := HS.out x (List.mem_of_getElem? hx)
          have HTK := hide (idLinks_take hx)
          have hT7 : (idLinks 0 (l.take k)).length ≤ 440 := by
            have := idLinks_bound (B := 21) 0 (l.take k) (fun d hd => HS.out d (List.mem_of_mem_take hd))
            have htl : (l.take k).length ≤ 20 := by rw [List.length_take]; omega
            omega
          have HRS := hide hrs
          clear hx hrs esv
          have hb1 := Blk.new wr 143 #[.int .i64 x.par, .slice A' x.sup.length cp', .int .u64 (x.dl : Int)]
          have hf1 : Fr [] wr (wr.alloc (.cells #[.int .i64 x.par, .slice A' x.sup.length cp', .int .u64 (x.dl : Int)] 143)) := (Fr.refl _ _).alloc _
          have HOWN1 := hide (own_fr HOWN.out hf1 (fun _ _ => by simp))
          have hfr1 := hfr.call hf1
          go_upto_if 71 with (fail)
          generalize wr.alloc (.cells #[.int .i64 x.par, .slice A' x.sup.length cp', .int .u64 (x.dl : Int)] 143) = w1 at hb1 hfr1 HOWN1 ⊢
          generalize wr.heap.size = gd at hb1 ⊢
          have d0 : w1.cell? ⟨gd, 0, none⟩ = some (.int .i64 x.par) := hb1.cell 0
          have HB1 := hide hb1
          have hz1 : w.heap.size ≤ w1.heap.size := hfr1.size
          clear hb1 hf1 HOWN c0 c1 c2
          go_cut [7] (fun s7 wx => N2Cut w w1 l k x gd s7 wx)
          case first =>
            by_cases h0 : 0 ≤ x.par
            · go_wp2_with (first
                | (at_builtin
                   refine wpList_append_row _ rfl (.tmp 72) (.tmp 77) _ rfl w.heap.size 76 i0 (.agg #[.int .i64 0, .int .i64 0]) 2 16 Try.underlying74 HI.out.1 HI.out.2.1 HI.out.2.2.1 HI.out.2.2.2 rfl (by omega) (.slice A7 (idLinks 0 (l.take k)).length c7) (idLinks 0 (l.take k)).length (pcs (idLinks 0 (l.take k))) rfl
                     (own_fr HOWN1.out ((Fr.refl [] _).alloc _) (fun _ _ => by simp)) (some ⟨w1.heap.size, 0, none⟩) 1 1 [.int .i64 (k : Int), .int .i64 x.par] rfl rfl (row_two w1 _ _ _) (by intro u hu; simp at hu; rcases hu with rfl | rfl <;> rfl) (by simp only [maxLen]; omega) (by omega) (by simp; omega) ?_
                   intro v1 w7 hown7 hg7 hat7))
              have hf17 : Fr (Value.slice A7 (idLinks 0 (l.take k)).length c7).ownBlock.toList w1 w7 := ((Fr.refl _ w1).alloc _).trans (Fr.of_grown hg7)
              have hfw : Fr [] w w7 := hfr1.step hf17 (fun i hi => .inr (own_block HOWN1.out (by simpa using hi)).1)
              have hgd : w7.heap[gd]? = w1.heap[gd]? := hf17.block gd HB1.out.lt (fun hm => by
                obtain ⟨_, _, cs, hb⟩ := own_block HOWN1.out (show (Value.slice A7 (idLinks 0 (l.take k)).length c7).ownBlock = some gd by simpa using hm)
                exact Blk.ne_ hb HB1.out (by decide) rfl)
              obtain ⟨A8, c8, rfl, -, -, -⟩ := own_slice hown7
              go_meet
              refine ⟨idLinks 0 (l.take k) ++ [((k : Int), x.par)], by rw [if_pos h0], ?_, ⟨A8, c8, by rw [List.length_append]; rfl⟩, hgd, hfw⟩
              rw [List.length_append, pcs_snoc]
              exact hown7
            · go_wp2_with fail
              go_meet
              exact ⟨idLinks 0 (l.take k), by rw [if_neg (by omega), List.append_nil], HOWN1.out, ⟨A7, c7, rfl⟩, rfl, hfr1⟩
          case rest =>
            obtain ⟨L, hL, hown, ⟨A8, c8, rfl⟩, hgd, hfc⟩ := hcut
            have HL := hide hL
            have HOWN := hide hown
            have hbc : Blk wc gd 143 #[.int .i64 x.par, .slice A' x.sup.length cp', .int .u64 (x.dl : Int)] := hgd.trans HB1.out
            have d1 : wc.cell? ⟨gd, 1, none⟩ = some (.slice A' x.sup.length cp') := hbc.cell 1
            clear hL hown hgd hbc HB1 HOWN1 d0 hz1 hfr1 w1
            have hLk : L.length ≤ 441 := by
              rw [HL.out, List.length_append]
              split <;> simp <;> omega
            go_wp2
            go_loopg [7, 82] x.sup.length (fun m v i wr => N3Rel w L k x.sup m v i wr)
            case atStart => exact ⟨0, by omega, rfl, by simpa using HOWN.out, hfc, rfl⟩
            case round =>
              obtain ⟨j, hj, rfl, hown3, hfr3, hmm3⟩ := hrel
              have HM3 := hide hmm3
              have HOWN3 := hide hown3
              obtain ⟨A9, c9, rfl, -, -, -⟩ := own_slice hown3
              clear hmm3 hown3
              by_cases hlj : j < x.sup.length
              · obtain ⟨y, hy⟩ : ∃ y, x.sup[j]? = some y := ⟨_, List.getElem?_eq_getElem hlj⟩
                obtain ⟨ob2, oo2, rfl, q1⟩ := (HRS.out.fr0 hfr3).int hy
                have hji : (j : Int) < (x.sup.length : Int) := by omega
                have HTJ := hide (take_succ_some hy)
                have hlen3 : (L ++ (x.sup.take j).map fun s => ((k : Int), s)).length ≤ 470 := by
                  rw [List.length_append, List.length_map, List.length_take]
                  omega
                have hz3 := hfr3.size
                clear hy
                generalize hLj : L ++ (x.sup.take j).map (fun s => ((k : Int), s)) = Lj at HOWN3 hlen3 ⊢
                have HLJ := hide hLj
                clear hLj
                go_wp2_with (first
                  | (at_builtin
                     refine wpList_append_row _ rfl (.tmp 86) (.tmp 90) _ rfl w.heap.size 76 i0 (.agg #[.int .i64 0, .int .i64 0]) 2 16 Try.underlying74 HI.out.1 HI.out.2.1 HI.out.2.2.1 HI.out.2.2.2 rfl (by omega) (.slice A9 Lj.length c9) Lj.length (pcs Lj) rfl
                       (own_fr HOWN3.out ((Fr.refl [] _).alloc _) (fun _ _ => by simp)) (some ⟨wr.heap.size, 0, none⟩) 1 1 [.int .i64 (k : Int), .int .i64 y] rfl rfl (row_two wr _ _ _) (by intro u hu; simp at hu; rcases hu with rfl | rfl <;> rfl) (by simp only [maxLen]; omega) (by omega) (by simp; omega) ?_
                     intro v1 w7 hown7 hg7 hat7))
                have hf37 : Fr (Value.slice A9 Lj.length c9).ownBlock.toList wr w7 := ((Fr.refl _ wr).alloc _).trans (Fr.of_grown hg7)
                have hfw : Fr [] w w7 := hfr3.step hf37 (fun i hi => .inr (own_block HOWN3.out (by simpa using hi)).1)
                go_roundg (x.sup.length - (j + 1))
                case measure => rw [HM3.out]; omega
                case rel =>
                  have e : L ++ (x.sup.take (j + 1)).map (fun s => ((k : Int), s)) = Lj ++ [((k : Int), y)] := by
                    rw [HTJ.out, List.map_append, ← List.append_assoc, HLJ.out]
                    rfl
                  refine ⟨j + 1, by omega, by go_num, ?_, hfw, rfl⟩
                  rw [e, List.length_append, pcs_snoc]
                  exact hown7
              · have hji : ¬ (j : Int) < (x.sup.length : Int) := by omega
                rw [List.take_of_length_le (by omega)] at HOWN3 ⊢
                have HT2 : Hid (idLinks 0 (l.take (k + 1)) = L ++ x.sup.map fun s => ((k : Int), s)) := hide (by
                  rw [HTK.out, HL.out]
                  unfold linkOf
                  rw [List.append_assoc])
                go_wp2
                go_roundg (l.length - (k + 1))
                case measure => rw [HM.out]; omega
                case rel => exact ⟨k + 1, by omega, by go_num, by rw [HT2.out]; have h := HOWN3.out; simp only [List.length_append, List.length_map] at h ⊢; exact h, hfr3, rfl⟩
        · obtain rfl : k = l.length := by omega
          rw [List.take_length] at HOWN ⊢
          clear HM hk
          have HNE : Hid (newE l = checkM (l.length : Int) (idLinks 0 l)) := hide (by unfold newE; rw [if_pos HALL.out])
          generalize hLL : idLinks 0 l = L at HOWN HNE hT hTi hTd ⊢
          have HLL := hide hLL
          clear hLL
          obtain ⟨A8, c8, e8, -, hrow, hlo7⟩ := own_slice HOWN.out
          obtain ⟨rfl, rfl⟩ : A7 = A8 ∧ c7 = c8 := by injection e8 with e1 e2 e3; exact ⟨e1, e3⟩
          have HROW := hide hrow
          have HA7 := hide hlo7
          clear hrow e8 hlo7
          go_wp2_with fail
          refine (order_any24 (l.length : Int) A7 c7 L wr HROW.out (by omega)).mono ?_
          rintro e w2 ⟨v, rfl, hown2, hf2⟩
          have hfr2 := hfr.call hf2
          have HNE2 : Hid (newE l = (orderM (l.length : Int) L).2) := HNE
          by_cases hz : (orderM (l.length : Int) L).2 = 0
          · have HO : Hid ((orderM (l.length : Int) L).1 = greedy l.length (toNs L) ∧ (greedy l.length (toNs L)).length = l.length ∧ basicM (l.length : Int) L = 0) := hide (by
              unfold orderM at hz ⊢
              by_cases hb : basicM (l.length : Int) L = 0
              · rw [if_pos hb] at hz ⊢
                rw [Int.toNat_natCast] at hz ⊢
                by_cases hg : (greedy l.length (toNs L)).length = l.length
                · rw [if_pos hg]
                  exact ⟨rfl, hg, hb⟩
                · rw [if_neg hg] at hz
                  cases hz
              · rw [if_neg hb] at hz
                exact absurd hz hb)
            have HNE3 : Hid (newE l = 0) := hide (by rw [HNE2.out]; exact hz)
            rw [HO.out.1] at hown2
            rw [hz]
            have hgl := HO.out.2.1
            have HB0 := hide HO.out.2.2
            generalize hord : greedy l.length (toNs L) = ord at hown2 hgl
            have HORD := hide hord
            obtain ⟨Ao, co, rfl, -, hro, hlo⟩ := own_slice hown2
            have HRO := hide hro
            have HOWO := hide hown2
            have HAO := hide hlo
            have HGL := hide hgl
            clear hz hord hown2 hro hlo hgl
            obtain ⟨M0, hM0⟩ : ∃ M0 : RM, M0 = { newRM l with dl := dlTo l 0 } := ⟨_, rfl⟩
            have hMn : M0.n = l.length := by rw [hM0]; rfl
            have hmk := make_st M0 (fun i => by rw [hM0]; show dlTo l 0 i = 0; unfold dlTo; rw [if_neg (by omega)]) (by omega) w2
            have hf3 : Fr [] w2 (w2.alloc (.cells (stvs nilV nilV M0 zeroS) 153)) := (Fr.refl _ _).alloc _
            have HM0 := hide hM0
            rw [hMn] at hmk
            clear hM0
            have hrw : w.heap.size ≤ wr.heap.size := hfr.size
            go_upto_region 31 with (fail)
            clear hmk
            have htab := fun base => TabIn.new base w2 M0
            generalize hw3 : w2.alloc (.cells (stvs nilV nilV M0 zeroS) 153) = w3 at htab hf3 ⊢
            have hgs : w3.heap.size = w2.heap.size + 1 := by rw [← hw3]; simp
            have HOW3 := hide (own_fr HOWO.out hf3 (fun _ _ => by simp))
            have HRO3 := hide (HRO.out.fr0 hf3)
            have hfr3 := hfr2.call hf3
            have HROW3 := hide ((HROW.out.fr0 hf2).fr0 hf3)
            have hgb : w.heap.size ≤ w2.heap.size := hfr2.size
            have hao : ∀ ad, Ao = some ad → ad.block < w2.heap.size ∧ w.heap.size ≤ ad.block := fun ad e => ⟨(HAO.out ad e).2, Nat.le_trans hrw (HAO.out ad e).1⟩
            have ha7 : ∀ ad, A7 = some ad → ad.block < w2.heap.size := fun ad e => Nat.lt_of_lt_of_le (HA7.out ad e).2 hf2.size
            have HGS := hide hgs
            clear hw3 hf3 hf2 HROW HRO HAO HOWO hfr hgs HA7
            generalize w2.heap.size = g at htab hgb hao ha7 HGS ⊢
            have HAO := hide hao
            have HA7 := hide ha7
            clear hao ha7
            have hb4 : Blk (w3.alloc (.cells #[.slice (some ⟨g, 0, none⟩) l.length l.length, .slice Ao ord.length co, uv 0] 151)) (g + 1) 151 #[.slice (some ⟨g, 0, none⟩) l.length l.length, .slice Ao ord.length co, uv 0] := by
              have := Blk.new w3 151 #[.slice (some ⟨g, 0, none⟩) l.length l.length, .slice Ao ord.length co, uv 0]
              rwa [HGS.out] at this
            have hf4 : Fr [] w3 (w3.alloc (.cells #[.slice (some ⟨g, 0, none⟩) l.length l.length, .slice Ao ord.length co, uv 0] 151)) := (Fr.refl _ _).alloc _
            rw [show (Value.int IntKind.u64 0) = uv 0 from rfl]
            generalize w3.alloc (.cells #[.slice (some ⟨g, 0, none⟩) l.length l.length, .slice Ao ord.length co, uv 0] 151) = w4 at hb4 hf4 ⊢
            have HTAB := hide ((htab w4.heap.size).fr0 hf4)
            have HB4 := hide hb4
            have HOW4 := hide (own_fr HOW3.out hf4 (fun _ _ => by simp))
            have HRO4 := hide (HRO3.out.fr0 hf4)
            have HROW4 := hide (HROW3.out.fr0 hf4)
            have hfr4 := hfr3.call hf4
            rw [HM0.out] at HTAB
            have hgb1 : g ≠ g + 1 := by omega
            clear htab hb4 hf4 HOW3 HRO3 HROW3 HM0 hMn M0 hfr3 hfr2 HGS w3 w2
            go_wp2
            go_loopg [112] l.length (fun m i wx => N4Rel w4 w4.heap.size g l m i wx)
            case atStart => exact ⟨0, by omega, rfl, HTAB.out, Fr.refl _ _, rfl⟩
            case round =>
              obtain ⟨k, hk, rfl, htab, hf5, hmm⟩ := hrel
              have HM := hide hmm
              have HT5 := hide htab
              clear hmm htab
              by_cases hlt : k < l.length
              · obtain ⟨x, hx⟩ : ∃ x, l[k]? = some x := ⟨_, List.getElem?_eq_getElem hlt⟩
                have hfr5 : Fr [] w wr := hfr4.step hf5 (fun i hi => .inr (by rw [List.mem_singleton.1 hi]; exact hgb))
                obtain ⟨ob, oo, A', cp', rfl, -, c0, c1, c2, -⟩ := (HR.out.fr0 hfr5).el hx
                have hkl : (k : Int) < (l.length : Int) := by omega
                have HDS := hide (dlTo_step hx)
                have hf6 : Fr [] wr (wr.alloc (.cells #[.int .i64 x.par, .slice A' x.sup.length cp', .int .u64 (x.dl : Int)] 143)) := (Fr.refl _ _).alloc _
                have hb6 := Blk.new wr 143 #[.int .i64 x.par, .slice A' x.sup.length cp', .int .u64 (x.dl : Int)]
                clear hx
                go_upto_region 34 with (fail)
                generalize wr.alloc (.cells #[.int .i64 x.par, .slice A' x.sup.length cp', .int .u64 (x.dl : Int)] 143) = w6 at hf6 hb6 ⊢
                generalize wr.heap.size = gd at hb6 ⊢
                have hf46 : Fr [g] w4 w6 := hf5.trans (hf6.mono (fun _ _ h => by cases h))
                have HT6 := hide (HT5.out.fr0 hf6)
                have hb46 := HB4.out.fr hf46 (by simp)
                have d0 : w6.cell? ⟨g + 1, 0, none⟩ = some (.slice (some ⟨g, 0, none⟩) l.length l.length) := hb46.cell 0
                have d1 : w6.cell? ⟨gd, 2, none⟩ = some (.int .u64 (x.dl : Int)) := hb6.cell 2
                obtain ⟨u, d2⟩ : ∃ u, w6.cell? ⟨g, k * 6 + 2, none⟩ = some u := ⟨_, (HT6.out.blk.cell _).trans (stvs_get _ _ _ _ hlt (by omega))⟩
                have f2 : w6.frozen? ⟨g, k * 6 + 2, none⟩ = false := HT6.out.blk.frozen _
                have HT7 := hide (HT6.out.delay hlt x.dl)
                clear hf6 hb6 hb46 c0 c1 c2
                go_still_tail 9, (by kernel_rfl)
                repeat still_step
                go_wp2
                go_roundg (l.length - (k + 1))
                case measure => rw [HM.out]; omega
                case rel =>
                  refine ⟨k + 1, by omega, by go_num, ?_, (hf46.set (p := ⟨g, k * 6 + 2, none⟩) (.inl (by simp)) _).drew, rfl⟩
                  have h7 := HT7.out
                  simp only [HDS.out] at h7
                  exact h7.fr0 (Fr.refl _ _).drew
              · obtain rfl : k = l.length := by omega
                have hT5 := HT5.out
                rw [dlTo_all] at hT5
                rw [show ({ newRM l with dl := (newRM l).dl } : RM) = newRM l from rfl, show (fun _ => []) = FL (toNs (L.take 0)) by funext j; unfold FL; split <;> rfl] at hT5
                have HTN := hide hT5
                clear hT5 HT5 HM
                obtain ⟨wz, hwz⟩ : ∃ wz, wz = wr := ⟨_, rfl⟩
                subst hwz
                go_wp2
                go_loopg [129] L.length (fun m i wx => N5Rel w4 w4.heap.size g l L m i wx)
                case atStart => exact ⟨0, nilV, by omega, rfl, HTN.out, hf5, rfl⟩
                case round =>
                obtain ⟨k, V, hk, rfl, htab, hf6, hmm⟩ := hrel
                have HM := hide hmm
                have HT6 := hide htab
                clear hmm htab
                by_cases hlt : k < L.length
                · obtain ⟨c, q, hp, hpc, hpq⟩ : ∃ c q : Nat, L[k]? = some ((c : Int), (q : Int)) ∧ c < l.length ∧ q < l.length := by
                    obtain ⟨p, hp⟩ : ∃ p, L[k]? = some p := ⟨_, List.getElem?_eq_getElem hlt⟩
                    have hLO := (basicM_zero HB0.out).1.2.2.2 p (List.mem_of_getElem? hp)
                    obtain ⟨p1, p2⟩ := p
                    obtain ⟨h1, h2, h3, h4⟩ := hLO
                    simp only at h1 h2 h3 h4
                    obtain ⟨c, rfl⟩ := Int.eq_ofNat_of_zero_le h1
                    obtain ⟨q, rfl⟩ := Int.eq_ofNat_of_zero_le h3
                    exact ⟨c, q, hp, by omega, by omega⟩
                  have hfr6 : Fr [] w wr := hfr4.step hf6 (fun i hi => .inr (by rw [List.mem_singleton.1 hi]; exact hgb))
                  obtain ⟨oa, oo, rfl, c0, c1⟩ := ((HROW4.out.fr hf6 (fun ad e hm => by have := HA7.out ad e; have := List.mem_singleton.1 hm; omega)).link hp)
                  have hkl : (k : Int) < (L.length : Int) := by omega
                  have hf7 : Fr [] wr (wr.alloc (.cells #[.int .i64 (c : Int), .int .i64 (q : Int)] 76)) := (Fr.refl _ _).alloc _
                  have hb7 := Blk.new wr 76 #[.int .i64 (c : Int), .int .i64 (q : Int)]
                  have HP := hide hp
                  have hci : (c : Int) < (l.length : Int) := by omega
                  have hqi : (q : Int) < (l.length : Int) := by omega
                  clear hp
                  go_upto_region 39 with (fail)
                  generalize wr.alloc (.cells #[.int .i64 (c : Int), .int .i64 (q : Int)] 76) = w6 at hf7 hb7 ⊢
                  generalize wr.heap.size = gd at hb7 ⊢
                  have hf46 : Fr [g] w4 w6 := hf6.trans (hf7.mono (fun _ _ h => by cases h))
                  have HT7 := hide (HT6.out.fr0 hf7)
                  have hb46 := HB4.out.fr hf46 (by simp)
                  have d0 : w6.cell? ⟨g + 1, 0, none⟩ = some (.slice (some ⟨g, 0, none⟩) l.length l.length) := hb46.cell 0
                  have d1 : w6.cell? ⟨gd, 0, none⟩ = some (.int .i64 (c : Int)) := hb7.cell 0
                  have d2 : w6.cell? ⟨gd, 1, none⟩ = some (.int .i64 (q : Int)) := hb7.cell 1
                  have hjc : 2 * c < 2 * (newRM l).n := by show 2 * c < 2 * l.length; omega
                  obtain ⟨A5, c5, e5, -, -, -⟩ := own_slice (HT7.out.rows (2 * c) hjc)
                  have d3 : w6.cell? ⟨g, c * 6, none⟩ = some (.slice A5 (FL (toNs (L.take k)) (2 * c)).length c5) := by
                    have := HT7.out.cell hjc
                    rw [e5] at this
                    unfold colC at this
                    rw [show 2 * c / 2 * 6 + 2 * c % 2 = c * 6 by omega] at this
                    exact this
                  have f3 : w6.frozen? ⟨g, c * 6, none⟩ = false := HT7.out.blk.frozen _
                  have HE5 := hide e5
                  have HRW := hide (HT7.out.rows (2 * c) hjc)
                  rw [e5] at HRW
                  have hFL : (FL (toNs (L.take k)) (2 * c)).length ≤ 440 := Nat.le_trans (FL_len _ _) (by rw [toNs_length, List.length_take]; omega)
                  have hb46 := hide hb46
                  have hb7 := hide hb7
                  clear hf7 c0 c1 e5
                  refine wp_region_T (fun w' => w'.cell? ⟨g + 1, 0, none⟩ = some (.slice (some ⟨g, 0, none⟩) l.length l.length) ∧ w'.cell? ⟨gd, 0, none⟩ = some (.int .i64 (c : Int)) ∧ w'.cell? ⟨gd, 1, none⟩ = some (.int .i64 (q : Int)) ∧ w'.cell? ⟨g, c * 6, none⟩ = some (.slice A5 (FL (toNs (L.take k)) (2 * c)).length c5)) 21 (by kernel_rfl) ?_
                  have hS : (fun w' => w'.cell? ⟨g + 1, 0, none⟩ = some (.slice (some ⟨g, 0, none⟩) l.length l.length) ∧ w'.cell? ⟨gd, 0, none⟩ = some (.int .i64 (c : Int)) ∧ w'.cell? ⟨gd, 1, none⟩ = some (.int .i64 (q : Int)) ∧ w'.cell? ⟨g, c * 6, none⟩ = some (.slice A5 (FL (toNs (L.take k)) (2 * c)).length c5)) { w6 with drawn := w6.drawn + 1 } := ⟨d0, d1, d2, d3⟩
                  refine wpAnyT_take (i := 0) (v := ?v0) rfl (by kernel_rfl) (by kernel_rfl) (fun _ _ _ h => h) (Or.inl ⟨by rfl, ?hy0⟩) hS ?rest0
                  case hy0 =>
                    intro wz hSw
                    obtain ⟨s0, s1, s2, s3⟩ := hSw
                    go_simp
                    try rfl
                  try simp only [Act.put, List.setIfInBounds_toArray, List.set_cons_zero, List.set_cons_succ, List.getElem_toArray, List.getElem_cons_zero]
                  refine wpAnyT_take (i := 1) (v := ?v1) rfl (by kernel_rfl) (by kernel_rfl) (fun _ _ _ h => h) (Or.inl ⟨by rfl, ?hy1⟩) hS ?rest1
                  case hy1 =>
                    intro wz hSw
                    obtain ⟨s0, s1, s2, s3⟩ := hSw
                    go_simp
                    try rfl
                  try simp only [Act.put, List.setIfInBounds_toArray, List.set_cons_zero, List.set_cons_succ, List.getElem_toArray, List.getElem_cons_zero, List.getElem_cons_succ]
                  refine wpAnyT_take (i := 2) (v := ?v2) rfl (by kernel_rfl) (by kernel_rfl) (fun _ _ _ h => h) (Or.inl ⟨by rfl, ?hy2⟩) hS ?rest2
                  case hy2 =>
                    intro wz hSw
                    obtain ⟨s0, s1, s2, s3⟩ := hSw
                    go_simp
                    try rfl
                  try simp only [Act.put, List.setIfInBounds_toArray, List.set_cons_zero, List.set_cons_succ, List.getElem_toArray, List.getElem_cons_zero, List.getElem_cons_succ]
                  refine wpAnyT_take (i := 3) (v := ?v3) rfl (by kernel_rfl) (by kernel_rfl) (fun _ _ _ h => h) (Or.inl ⟨by rfl, ?hy3⟩) hS ?rest3
                  case hy3 =>
                    intro wz hSw
                    obtain ⟨s0, s1, s2, s3⟩ := hSw
                    go_simp
                    try rfl
                  try simp only [Act.put, List.setIfInBounds_toArray, List.set_cons_zero, List.set_cons_succ, List.getElem_toArray, List.getElem_cons_zero, List.getElem_cons_succ]
                  refine wpAnyT_take (i := 4) (v := ?v4) rfl (by kernel_rfl) (by kernel_rfl) (fun _ _ _ h => h) (Or.inl ⟨by rfl, ?hy4⟩) hS ?rest4
                  case hy4 =>
                    intro wz hSw
                    obtain ⟨s0, s1, s2, s3⟩ := hSw
                    go_simp
                    try rfl
                  try simp only [Act.put, List.setIfInBounds_toArray, List.set_cons_zero, List.set_cons_succ, List.getElem_toArray, List.getElem_cons_zero, List.getElem_cons_succ]
                  refine wpAnyT_take (i := 5) (v := ?v5) rfl (by kernel_rfl) (by kernel_rfl) (fun _ _ _ h => h) (Or.inl ⟨by rfl, ?hy5⟩) hS ?rest5
                  case hy5 =>
                    intro wz hSw
                    obtain ⟨s0, s1, s2, s3⟩ := hSw
                    go_simp
                    try rfl
                  try simp only [Act.put, List.setIfInBounds_toArray, List.set_cons_zero, List.set_cons_succ, List.getElem_toArray, List.getElem_cons_zero, List.getElem_cons_succ]
                  refine wpAnyT_take (i := 6) (v := ?v6) rfl (by kernel_rfl) (by kernel_rfl) (fun _ _ _ h => h) (Or.inl ⟨by rfl, ?hy6⟩) hS ?rest6
                  case hy6 =>
                    intro wz hSw
                    obtain ⟨s0, s1, s2, s3⟩ := hSw
                    go_simp
                    try rfl
                  try simp only [Act.put, List.setIfInBounds_toArray, List.set_cons_zero, List.set_cons_succ, List.getElem_toArray, List.getElem_cons_zero, List.getElem_cons_succ]
                  refine wpAnyT_take (i := 7) (v := ?v7) rfl (by kernel_rfl) (by kernel_rfl) (fun _ _ _ h => h) (Or.inl ⟨by rfl, ?hy7⟩) hS ?rest7
                  case hy7 =>
                    intro wz hSw
                    obtain ⟨s0, s1, s2, s3⟩ := hSw
                    go_simp
                    try rfl
                  try simp only [Act.put, List.setIfInBounds_toArray, List.set_cons_zero, List.set_cons_succ, List.getElem_toArray, List.getElem_cons_zero, List.getElem_cons_succ]
                  refine wpAnyT_take (i := 8) (v := ?v8) rfl (by kernel_rfl) (by kernel_rfl) (fun _ _ _ h => h) (Or.inl ⟨by rfl, ?hy8⟩) hS ?rest8
                  case hy8 =>
                    intro wz hSw
                    obtain ⟨s0, s1, s2, s3⟩ := hSw
                    go_simp
                    try rfl
                  try simp only [Act.put, List.setIfInBounds_toArray, List.set_cons_zero, List.set_cons_succ, List.getElem_toArray, List.getElem_cons_zero, List.getElem_cons_succ]
                  refine wpAnyT_take (i := 9) (v := ?v9) rfl (by kernel_rfl) (by kernel_rfl) (fun _ _ _ h => h) (Or.inl ⟨by rfl, ?hy9⟩) hS ?rest9
                  case hy9 =>
                    intro wz hSw
                    obtain ⟨s0, s1, s2, s3⟩ := hSw
                    go_simp
                    try rfl
                  try simp only [Act.put, List.setIfInBounds_toArray, List.set_cons_zero, List.set_cons_succ, List.getElem_toArray, List.getElem_cons_zero, List.getElem_cons_succ]
                  refine wpAnyT_take (i := 10) (v := ?v10) rfl (by kernel_rfl) (by kernel_rfl) (fun _ _ _ h => h) (Or.inl ⟨by rfl, ?hy10⟩) hS ?rest10
                  case hy10 =>
                    intro wz hSw
                    obtain ⟨s0, s1, s2, s3⟩ := hSw
                    go_simp
                    try rfl
                  try simp only [Act.put, List.setIfInBounds_toArray, List.set_cons_zero, List.set_cons_succ, List.getElem_toArray, List.getElem_cons_zero, List.getElem_cons_succ]
                  refine wpAnyT_take (i := 11) (v := ?v11) rfl (by kernel_rfl) (by kernel_rfl) (fun _ _ _ h => h) (Or.inl ⟨by rfl, ?hy11⟩) hS ?rest11
                  case hy11 =>
                    intro wz hSw
                    obtain ⟨s0, s1, s2, s3⟩ := hSw
                    go_simp
                    try rfl
                  try simp only [Act.put, List.setIfInBounds_toArray, List.set_cons_zero, List.set_cons_succ, List.getElem_toArray, List.getElem_cons_zero, List.getElem_cons_succ]
                  refine wpAnyT_take (i := 12) (v := ?v12) rfl (by kernel_rfl) (by kernel_rfl) (fun _ _ _ h => h) (Or.inl ⟨by rfl, ?hy12⟩) hS ?rest12
                  case hy12 =>
                    intro wz hSw
                    obtain ⟨s0, s1, s2, s3⟩ := hSw
                    go_simp
                    try rfl
                  try simp only [Act.put, List.setIfInBounds_toArray, List.set_cons_zero, List.set_cons_succ, List.getElem_toArray, List.getElem_cons_zero, List.getElem_cons_succ]
                  refine wpAnyT_take (i := 13) (v := ?v13) rfl (by kernel_rfl) (by kernel_rfl) (fun _ _ _ h => h) (Or.inl ⟨by rfl, ?hy13⟩) hS ?rest13
                  case hy13 =>
                    intro wz hSw
                    obtain ⟨s0, s1, s2, s3⟩ := hSw
                    go_simp
                    try rfl
                  try simp only [Act.put, List.setIfInBounds_toArray, List.set_cons_zero, List.set_cons_succ, List.getElem_toArray, List.getElem_cons_zero, List.getElem_cons_succ]
                  refine wpAnyT_take (i := 14) (v := ?v14) rfl (by kernel_rfl) (by kernel_rfl) (fun _ _ _ h => h) (Or.inl ⟨by rfl, ?hy14⟩) hS ?rest14
                  case hy14 =>
                    intro wz hSw
                    obtain ⟨s0, s1, s2, s3⟩ := hSw
                    go_simp
                    try rfl
                  try simp only [Act.put, List.setIfInBounds_toArray, List.set_cons_zero, List.set_cons_succ, List.getElem_toArray, List.getElem_cons_zero, List.getElem_cons_succ]
                  refine wpAnyT_take (i := 15) (v := ?v15) rfl (by kernel_rfl) (by kernel_rfl) (fun _ _ _ h => h) (Or.inl ⟨by rfl, ?hy15⟩) hS ?rest15
                  case hy15 =>
                    intro wz hSw
                    obtain ⟨s0, s1, s2, s3⟩ := hSw
                    go_simp
                    try rfl
                  try simp only [Act.put, List.setIfInBounds_toArray, List.set_cons_zero, List.set_cons_succ, List.getElem_toArray, List.getElem_cons_zero, List.getElem_cons_succ]
                  refine wpAnyT_take (i := 16) (v := ?v16) rfl (by kernel_rfl) (by kernel_rfl) (fun _ _ _ h => h) (Or.inl ⟨by rfl, ?hy16⟩) hS ?rest16
                  case hy16 =>
                    intro wz hSw
                    obtain ⟨s0, s1, s2, s3⟩ := hSw
                    go_simp
                    try rfl
                  try simp only [Act.put, List.setIfInBounds_toArray, List.set_cons_zero, List.set_cons_succ, List.getElem_toArray, List.getElem_cons_zero, List.getElem_cons_succ]
                  clear hS
                  have hf67 : Fr [] w6 ((w6.alloc (.cells #[.int .i64 (q : Int)] 3)).drew) := ((Fr.refl _ _).alloc _).drew
                  refine wpAnyT_one (i := 17) (by kernel_rfl) rfl (by rfl) (fun K hK => ?_)
                  go_simp
                  refine hK _ _ (.inr ⟨hf67.cell d0 (by simp), hf67.cell d1 (by simp), hf67.cell d2 (by simp), hf67.cell d3 (by simp)⟩) ?_
                  refine wpAnyT_one (i := 18) (by kernel_rfl) rfl (by rfl) (fun K2 hK2 => ?_)
                  refine wp_append_row _ (.tmp 147) (.tmp 150) 34 (by rfl) w4.heap.size 3 i1 (.int .i64 0) 1 8 Try.underlying34 HI1.out.1 HI1.out.2.1 HI1.out.2.2.1 HI1.out.2.2.2 rfl (by omega) (.slice A5 (FL (toNs (L.take k)) (2 * c)).length c5) (FL (toNs (L.take k)) (2 * c)).length ((FL (toNs (L.take k)) (2 * c)).map nv) (by rfl)
                    (own_fr HRW.out hf67 (fun _ _ => by simp)) (some ⟨w6.heap.size, 0, none⟩) 1 1 [.int .i64 (q : Int)] (by rfl) rfl ((row_one w6 _ _).fr0 (Fr.refl _ _).drew) (by intro u hu; rw [List.mem_singleton.1 hu]; rfl) (by simp only [maxLen]; omega) (by omega) (by have := hf46.size; simp; omega) ?_
                  intro v7 w7 hown7 hg7 hat7
                  obtain ⟨A6, c6, rfl, -, -, -⟩ := own_slice hown7
                  have hf7 : Fr (Value.slice A5 (FL (toNs (L.take k)) (2 * c)).length c5).ownBlock.toList w6 w7 := hf67.mono (fun _ _ h => by cases h) |>.trans (Fr.of_grown hg7)
                  have HN7 : Hid (∀ y t' cs', Blk w6 y t' cs' → t' ≠ 3 → y ∉ (Value.slice A5 (FL (toNs (L.take k)) (2 * c)).length c5).ownBlock.toList) := hide (fun y t' cs' hb hne hm => by
                    obtain ⟨_, _, cs, hb2⟩ := own_block HRW.out (show (Value.slice A5 (FL (toNs (L.take k)) (2 * c)).length c5).ownBlock = some y by simpa using hm)
                    exact Blk.ne_ hb2 hb (Ne.symm hne) rfl)
                  have g0 := hf7.cell d0 (HN7.out _ _ _ hb46.out (by decide))
                  have g1 := hf7.cell d1 (HN7.out _ _ _ hb7.out (by decide))
                  have g2 := hf7.cell d2 (HN7.out _ _ _ hb7.out (by decide))
                  have g3 := hf7.cell d3 (HN7.out _ _ _ HT7.out.blk (by decide))
                  refine hK2 _ _ (.inr ⟨g0, g1, g2, g3⟩) ?_
                  try simp only [Act.put, List.setIfInBounds_toArray, List.set_cons_zero, List.set_cons_succ, List.getElem_toArray, List.getElem_cons_zero, List.getElem_cons_succ]
                  refine wpAnyT_one (i := 19) (by kernel_rfl) rfl (by rfl) (fun K3 hK3 => ?_)
                  go_simp
                  refine hK3 _ _ (.inr ⟨g0, g1, g2, g3⟩) ?_
                  try simp only [Act.put, List.setIfInBounds_toArray, List.set_cons_zero, List.set_cons_succ, List.getElem_toArray, List.getElem_cons_zero, List.getElem_cons_succ]
                  refine wpAnyT_one (i := 20) (by kernel_rfl) rfl (by rfl) (fun K4 hK4 => ?_)
                  go_simp
                  refine hK4 _ _ (.inr ⟨g0, g1, g2, g3⟩) ?_
                  try simp only [Act.put, List.setIfInBounds_toArray, List.set_cons_zero, List.set_cons_succ, List.getElem_toArray, List.getElem_cons_zero, List.getElem_cons_succ]
                  refine wpAnyT_one (i := 21) (by kernel_rfl) rfl (by rfl) (fun K5 hK5 => ?_)
                  have f37 : w7.frozen? ⟨g, c * 6, none⟩ = false := by rw [hf7.frozen (p := ⟨g, c * 6, none⟩) (HT7.out.blk.lt) (HN7.out _ _ _ HT7.out.blk (by decide))]; exact f3
                  go_simp
                  refine hK5 _ _ (.inl rfl) ?_
                  try simp only [Act.put, List.setIfInBounds_toArray, List.set_cons_zero, List.set_cons_succ, List.getElem_toArray, List.getElem_cons_zero, List.getElem_cons_succ]
                  refine wpAnyT_done (by kernel_rfl) ?_ _
                  have hgrow := HT7.out.grow (j := 2 * c) hjc (v' := .slice A6 ((FL (toNs (L.take k)) (2 * c)).length + 1) c6) (x := q) (by rw [HE5.out]; exact hf7) (by rw [List.map_append]; exact hown7) (by
                    rw [HE5.out]
                    rcases hat7 with h | h
                    · exact .inl h
                    · refine .inr ⟨_, ?_, h⟩
                      simp)
                  have hcol : colC (2 * c) = c * 6 := by unfold colC; omega
                  rw [hcol] at hgrow
                  have hfw7 : Fr [g] w4 w7 := hf46.step hf7 (fun i hi => .inr (own_block HRW.out (by simpa using hi)).1)
                  have hfw8 := hfw7.set (p := ⟨g, c * 6, none⟩) (.inl (by simp)) (.slice A6 ((FL (toNs (L.take k)) (2 * c)).length + 1) c6)
                  have hb78 := (hb7.out.fr hf7 (HN7.out _ _ _ hb7.out (by decide))).far (p := ⟨g, c * 6, none⟩) (Blk.ne_ hb7.out HT7.out.blk (by decide)) (.slice A6 ((FL (toNs (L.take k)) (2 * c)).length + 1) c6)
                  have hfr7 := hfw7
                  have HT8 := hide hgrow
                  have HB78 := hide hb78
                  clear hgrow hb78 hfr7 hfw7 hat7 HN7 g0 g1 g2 g3 f37 d0 d1 d2 d3 f3 hf67 hf7 hown7
                  go_upto_region 40 with (fail)
                  generalize w7.setCell ⟨g, c * 6, none⟩ (.slice A6 ((FL (toNs (L.take k)) (2 * c)).length + 1) c6) = w8 at HT8 hfw8 HB78 ⊢
                  generalize hV1 : setF V (2 * c) (.slice A6 ((FL (toNs (L.take k)) (2 * c)).length + 1) c6) = V1 at HT8
                  generalize hF1 : setF (FL (toNs (L.take k))) (2 * c) (FL (toNs (L.take k)) (2 * c) ++ [q]) = F1 at HT8
                  have HF1 := hide hF1
                  clear HE5 HRW HT7 hb7 hb46 hf46 hV1
                  have hjq : 2 * q + 1 < 2 * (newRM l).n := by show 2 * q + 1 < 2 * l.length; omega
                  have hFL1 : (F1 (2 * q + 1)).length ≤ 440 := by
                    rw [← hF1, setF_ne _ _ (by omega)]
                    exact Nat.le_trans (FL_len _ _) (by rw [toNs_length, List.length_take]; omega)
                  obtain ⟨A5, c5, e5, -, -, -⟩ := own_slice (HT8.out.rows (2 * q + 1) hjq)
                  have hb48 := HB4.out.fr hfw8 (by simp)
                  have d0 : w8.cell? ⟨g + 1, 0, none⟩ = some (.slice (some ⟨g, 0, none⟩) l.length l.length) := hb48.cell 0
                  have d1 : w8.cell? ⟨gd, 0, none⟩ = some (.int .i64 (c : Int)) := HB78.out.cell 0
                  have d2 : w8.cell? ⟨gd, 1, none⟩ = some (.int .i64 (q : Int)) := HB78.out.cell 1
                  have d3 : w8.cell? ⟨g, q * 6 + 1, none⟩ = some (.slice A5 (F1 (2 * q + 1)).length c5) := by
                    have := HT8.out.cell hjq
                    rw [e5] at this
                    unfold colC at this
                    rw [show (2 * q + 1) / 2 * 6 + (2 * q + 1) % 2 = q * 6 + 1 by omega] at this
                    exact this
                  have f3 : w8.frozen? ⟨g, q * 6 + 1, none⟩ = false := HT8.out.blk.frozen _
                  have HE5 := hide e5
                  have HRW := hide (HT8.out.rows (2 * q + 1) hjq)
                  rw [e5] at HRW
                  have hb48 := hide hb48
                  have hf46 := hfw8
                  clear e5 hF1 hFL
                  refine wp_region_T (fun w' => w'.cell? ⟨g + 1, 0, none⟩ = some (.slice (some ⟨g, 0, none⟩) l.length l.length) ∧ w'.cell? ⟨gd, 0, none⟩ = some (.int .i64 (c : Int)) ∧ w'.cell? ⟨gd, 1, none⟩ = some (.int .i64 (q : Int)) ∧ w'.cell? ⟨g, q * 6 + 1, none⟩ = some (.slice A5 (F1 (2 * q + 1)).length c5)) 21 (by kernel_rfl) ?_
                  have hS : (fun w' => w'.cell? ⟨g + 1, 0, none⟩ = some (.slice (some ⟨g, 0, none⟩) l.length l.length) ∧ w'.cell? ⟨gd, 0, none⟩ = some (.int .i64 (c : Int)) ∧ w'.cell? ⟨gd, 1, none⟩ = some (.int .i64 (q : Int)) ∧ w'.cell? ⟨g, q * 6 + 1, none⟩ = some (.slice A5 (F1 (2 * q + 1)).length c5)) { w8 with drawn := w8.drawn + 1 } := ⟨d0, d1, d2, d3⟩
                  refine wpAnyT_take (i := 0) (v := ?vb0) rfl (by kernel_rfl) (by kernel_rfl) (fun _ _ _ h => h) (Or.inl ⟨by rfl, ?hyb0⟩) hS ?restb0
                  case hyb0 =>
                    intro wz hSw
                    obtain ⟨s0, s1, s2, s3⟩ := hSw
                    go_simp
                    try rfl
                  try simp only [Act.put, List.setIfInBounds_toArray, List.set_cons_zero, List.set_cons_succ, List.getElem_toArray, List.getElem_cons_zero]
                  refine wpAnyT_take (i := 1) (v := ?vb1) rfl (by kernel_rfl) (by kernel_rfl) (fun _ _ _ h => h) (Or.inl ⟨by rfl, ?hyb1⟩) hS ?restb1
                  case hyb1 =>
                    intro wz hSw
                    obtain ⟨s0, s1, s2, s3⟩ := hSw
                    go_simp
                    try rfl
                  try simp only [Act.put, List.setIfInBounds_toArray, List.set_cons_zero, List.set_cons_succ, List.getElem_toArray, List.getElem_cons_zero, List.getElem_cons_succ]
                  refine wpAnyT_take (i := 2) (v := ?vb2) rfl (by kernel_rfl) (by kernel_rfl) (fun _ _ _ h => h) (Or.inl ⟨by rfl, ?hyb2⟩) hS ?restb2
                  case hyb2 =>
                    intro wz hSw
                    obtain ⟨s0, s1, s2, s3⟩ := hSw
                    go_simp
                    try rfl
                  try simp only [Act.put, List.setIfInBounds_toArray, List.set_cons_zero, List.set_cons_succ, List.getElem_toArray, List.getElem_cons_zero, List.getElem_cons_succ]
                  refine wpAnyT_take (i := 3) (v := ?vb3) rfl (by kernel_rfl) (by kernel_rfl) (fun _ _ _ h => h) (Or.inl ⟨by rfl, ?hyb3⟩) hS ?restb3
                  case hyb3 =>
                    intro wz hSw
                    obtain ⟨s0, s1, s2, s3⟩ := hSw
                    go_simp
                    try rfl
                  try simp only [Act.put, List.setIfInBounds_toArray, List.set_cons_zero, List.set_cons_succ, List.getElem_toArray, List.getElem_cons_zero, List.getElem_cons_succ]
                  refine wpAnyT_take (i := 4) (v := ?vb4) rfl (by kernel_rfl) (by kernel_rfl) (fun _ _ _ h => h) (Or.inl ⟨by rfl, ?hyb4⟩) hS ?restb4
                  case hyb4 =>
                    intro wz hSw
                    obtain ⟨s0, s1, s2, s3⟩ := hSw
                    go_simp
                    try rfl
                  try simp only [Act.put, List.setIfInBounds_toArray, List.set_cons_zero, List.set_cons_succ, List.getElem_toArray, List.getElem_cons_zero, List.getElem_cons_succ]
                  refine wpAnyT_take (i := 5) (v := ?vb5) rfl (by kernel_rfl) (by kernel_rfl) (fun _ _ _ h => h) (Or.inl ⟨by rfl, ?hyb5⟩) hS ?restb5
                  case hyb5 =>
                    intro wz hSw
                    obtain ⟨s0, s1, s2, s3⟩ := hSw
                    go_simp
                    try rfl
                  try simp only [Act.put, List.setIfInBounds_toArray, List.set_cons_zero, List.set_cons_succ, List.getElem_toArray, List.getElem_cons_zero, List.getElem_cons_succ]
                  refine wpAnyT_take (i := 6) (v := ?vb6) rfl (by kernel_rfl) (by kernel_rfl) (fun _ _ _ h => h) (Or.inl ⟨by rfl, ?hyb6⟩) hS ?restb6
                  case hyb6 =>
                    intro wz hSw
                    obtain ⟨s0, s1, s2, s3⟩ := hSw
                    go_simp
                    try rfl
                  try simp only [Act.put, List.setIfInBounds_toArray, List.set_cons_zero, List.set_cons_succ, List.getElem_toArray, List.getElem_cons_zero, List.getElem_cons_succ]
                  refine wpAnyT_take (i := 7) (v := ?vb7) rfl (by kernel_rfl) (by kernel_rfl) (fun _ _ _ h => h) (Or.inl ⟨by rfl, ?hyb7⟩) hS ?restb7
                  case hyb7 =>
                    intro wz hSw
                    obtain ⟨s0, s1, s2, s3⟩ := hSw
                    go_simp
                    try rfl
                  try simp only [Act.put, List.setIfInBounds_toArray, List.set_cons_zero, List.set_cons_succ, List.getElem_toArray, List.getElem_cons_zero, List.getElem_cons_succ]
                  refine wpAnyT_take (i := 8) (v := ?vb8) rfl (by kernel_rfl) (by kernel_rfl) (fun _ _ _ h => h) (Or.inl ⟨by rfl, ?hyb8⟩) hS ?restb8
                  case hyb8 =>
                    intro wz hSw
                    obtain ⟨s0, s1, s2, s3⟩ := hSw
                    go_simp
                    try rfl
                  try simp only [Act.put, List.setIfInBounds_toArray, List.set_cons_zero, List.set_cons_succ, List.getElem_toArray, List.getElem_cons_zero, List.getElem_cons_succ]
                  refine wpAnyT_take (i := 9) (v := ?vb9) rfl (by kernel_rfl) (by kernel_rfl) (fun _ _ _ h => h) (Or.inl ⟨by rfl, ?hyb9⟩) hS ?restb9
                  case hyb9 =>
                    intro wz hSw
                    obtain ⟨s0, s1, s2, s3⟩ := hSw
                    go_simp
                    try rfl
                  try simp only [Act.put, List.setIfInBounds_toArray, List.set_cons_zero, List.set_cons_succ, List.getElem_toArray, List.getElem_cons_zero, List.getElem_cons_succ]
                  refine wpAnyT_take (i := 10) (v := ?vb10) rfl (by kernel_rfl) (by kernel_rfl) (fun _ _ _ h => h) (Or.inl ⟨by rfl, ?hyb10⟩) hS ?restb10
                  case hyb10 =>
                    intro wz hSw
                    obtain ⟨s0, s1, s2, s3⟩ := hSw
                    go_simp
                    try rfl
                  try simp only [Act.put, List.setIfInBounds_toArray, List.set_cons_zero, List.set_cons_succ, List.getElem_toArray, List.getElem_cons_zero, List.getElem_cons_succ]
                  refine wpAnyT_take (i := 11) (v := ?vb11) rfl (by kernel_rfl) (by kernel_rfl) (fun _ _ _ h => h) (Or.inl ⟨by rfl, ?hyb11⟩) hS ?restb11
                  case hyb11 =>
                    intro wz hSw
                    obtain ⟨s0, s1, s2, s3⟩ := hSw
                    go_simp
                    try rfl
                  try simp only [Act.put, List.setIfInBounds_toArray, List.set_cons_zero, List.set_cons_succ, List.getElem_toArray, List.getElem_cons_zero, List.getElem_cons_succ]
                  refine wpAnyT_take (i := 12) (v := ?vb12) rfl (by kernel_rfl) (by kernel_rfl) (fun _ _ _ h => h) (Or.inl ⟨by rfl, ?hyb12⟩) hS ?restb12
                  case hyb12 =>
                    intro wz hSw
                    obtain ⟨s0, s1, s2, s3⟩ := hSw
                    go_simp
                    try rfl
                  try simp only [Act.put, List.setIfInBounds_toArray, List.set_cons_zero, List.set_cons_succ, List.getElem_toArray, List.getElem_cons_zero, List.getElem_cons_succ]
                  refine wpAnyT_take (i := 13) (v := ?vb13) rfl (by kernel_rfl) (by kernel_rfl) (fun _ _ _ h => h) (Or.inl ⟨by rfl, ?hyb13⟩) hS ?restb13
                  case hyb13 =>
                    intro wz hSw
                    obtain ⟨s0, s1, s2, s3⟩ := hSw
                    go_simp
                    try rfl
                  try simp only [Act.put, List.setIfInBounds_toArray, List.set_cons_zero, List.set_cons_succ, List.getElem_toArray, List.getElem_cons_zero, List.getElem_cons_succ]
                  refine wpAnyT_take (i := 14) (v := ?vb14) rfl (by kernel_rfl) (by kernel_rfl) (fun _ _ _ h => h) (Or.inl ⟨by rfl, ?hyb14⟩) hS ?restb14
                  case hyb14 =>
                    intro wz hSw
                    obtain ⟨s0, s1, s2, s3⟩ := hSw
                    go_simp
                    try rfl
                  try simp only [Act.put, List.setIfInBounds_toArray, List.set_cons_zero, List.set_cons_succ, List.getElem_toArray, List.getElem_cons_zero, List.getElem_cons_succ]
                  refine wpAnyT_take (i := 15) (v := ?vb15) rfl (by kernel_rfl) (by kernel_rfl) (fun _ _ _ h => h) (Or.inl ⟨by rfl, ?hyb15⟩) hS ?restb15
                  case hyb15 =>
                    intro wz hSw
                    obtain ⟨s0, s1, s2, s3⟩ := hSw
                    go_simp
                    try rfl
                  try simp only [Act.put, List.setIfInBounds_toArray, List.set_cons_zero, List.set_cons_succ, List.getElem_toArray, List.getElem_cons_zero, List.getElem_cons_succ]
                  refine wpAnyT_take (i := 16) (v := ?vb16) rfl (by kernel_rfl) (by kernel_rfl) (fun _ _ _ h => h) (Or.inl ⟨by rfl, ?hyb16⟩) hS ?restb16
                  case hyb16 =>
                    intro wz hSw
                    obtain ⟨s0, s1, s2, s3⟩ := hSw
                    go_simp
                    try rfl
                  try simp only [Act.put, List.setIfInBounds_toArray, List.set_cons_zero, List.set_cons_succ, List.getElem_toArray, List.getElem_cons_zero, List.getElem_cons_succ]
                  clear hS
                  have hf67 : Fr [] w8 ((w8.alloc (.cells #[.int .i64 (c : Int)] 3)).drew) := ((Fr.refl _ _).alloc _).drew
                  refine wpAnyT_one (i := 17) (by kernel_rfl) rfl (by rfl) (fun K hK => ?_)
                  go_simp
                  refine hK _ _ (.inr ⟨hf67.cell d0 (by simp), hf67.cell d1 (by simp), hf67.cell d2 (by simp), hf67.cell d3 (by simp)⟩) ?_
                  refine wpAnyT_one (i := 18) (by kernel_rfl) rfl (by rfl) (fun K2 hK2 => ?_)
                  refine wp_append_row _ (.tmp 168) (.tmp 171) 34 (by rfl) w4.heap.size 3 i1 (.int .i64 0) 1 8 Try.underlying34 HI1.out.1 HI1.out.2.1 HI1.out.2.2.1 HI1.out.2.2.2 rfl (by omega) (.slice A5 (F1 (2 * q + 1)).length c5) (F1 (2 * q + 1)).length ((F1 (2 * q + 1)).map nv) (by rfl)
                    (own_fr HRW.out hf67 (fun _ _ => by simp)) (some ⟨w8.heap.size, 0, none⟩) 1 1 [.int .i64 (c : Int)] (by rfl) rfl ((row_one w8 _ _).fr0 (Fr.refl _ _).drew) (by intro u hu; rw [List.mem_singleton.1 hu]; rfl) (by simp only [maxLen]; omega) (by omega) (by have := hf46.size; simp; omega) ?_
                  intro v7 w9 hown7 hg7 hat7
                  obtain ⟨A6, c6, rfl, -, -, -⟩ := own_slice hown7
                  have hf7 : Fr (Value.slice A5 (F1 (2 * q + 1)).length c5).ownBlock.toList w8 w9 := hf67.mono (fun _ _ h => by cases h) |>.trans (Fr.of_grown hg7)
                  have HN7 : Hid (∀ y t' cs', Blk w8 y t' cs' → t' ≠ 3 → y ∉ (Value.slice A5 (F1 (2 * q + 1)).length c5).ownBlock.toList) := hide (fun y t' cs' hb hne hm => by
                    obtain ⟨_, _, cs, hb2⟩ := own_block HRW.out (show (Value.slice A5 (F1 (2 * q + 1)).length c5).ownBlock = some y by simpa using hm)
                    exact Blk.ne_ hb2 hb (Ne.symm hne) rfl)
                  have g0 := hf7.cell d0 (HN7.out _ _ _ hb48.out (by decide))
                  have g1 := hf7.cell d1 (HN7.out _ _ _ HB78.out (by decide))
                  have g2 := hf7.cell d2 (HN7.out _ _ _ HB78.out (by decide))
                  have g3 := hf7.cell d3 (HN7.out _ _ _ HT8.out.blk (by decide))
                  refine hK2 _ _ (.inr ⟨g0, g1, g2, g3⟩) ?_
                  try simp only [Act.put, List.setIfInBounds_toArray, List.set_cons_zero, List.set_cons_succ, List.getElem_toArray, List.getElem_cons_zero, List.getElem_cons_succ]
                  refine wpAnyT_one (i := 19) (by kernel_rfl) rfl (by rfl) (fun K3 hK3 => ?_)
                  go_simp
                  refine hK3 _ _ (.inr ⟨g0, g1, g2, g3⟩) ?_
                  try simp only [Act.put, List.setIfInBounds_toArray, List.set_cons_zero, List.set_cons_succ, List.getElem_toArray, List.getElem_cons_zero, List.getElem_cons_succ]
                  refine wpAnyT_one (i := 20) (by kernel_rfl) rfl (by rfl) (fun K4 hK4 => ?_)
                  go_simp
                  refine hK4 _ _ (.inr ⟨g0, g1, g2, g3⟩) ?_
                  try simp only [Act.put, List.setIfInBounds_toArray, List.set_cons_zero, List.set_cons_succ, List.getElem_toArray, List.getElem_cons_zero, List.getElem_cons_succ]
                  refine wpAnyT_one (i := 21) (by kernel_rfl) rfl (by rfl) (fun K5 hK5 => ?_)
                  have f37 : w9.frozen? ⟨g, q * 6 + 1, none⟩ = false := by rw [hf7.frozen (p := ⟨g, q * 6 + 1, none⟩) (HT8.out.blk.lt) (HN7.out _ _ _ HT8.out.blk (by decide))]; exact f3
                  go_simp
                  refine hK5 _ _ (.inl rfl) ?_
                  try simp only [Act.put, List.setIfInBounds_toArray, List.set_cons_zero, List.set_cons_succ, List.getElem_toArray, List.getElem_cons_zero, List.getElem_cons_succ]
                  refine wpAnyT_done (by kernel_rfl) ?_ _
                  have hgrow := HT8.out.grow (j := 2 * q + 1) hjq (v' := .slice A6 ((F1 (2 * q + 1)).length + 1) c6) (x := c) (by rw [HE5.out]; exact hf7) (by rw [List.map_append]; exact hown7) (by
                    rw [HE5.out]
                    rcases hat7 with h | h
                    · exact .inl h
                    · refine .inr ⟨_, ?_, h⟩
                      simp)
                  have hcol : colC (2 * q + 1) = q * 6 + 1 := by unfold colC; omega
                  rw [hcol] at hgrow
                  have hfw9 : Fr [g] w4 w9 := hf46.step hf7 (fun i hi => .inr (own_block HRW.out (by simpa using hi)).1)
                  have hTK : FL (toNs (L.take (k + 1))) = setF F1 (2 * q + 1) (F1 (2 * q + 1) ++ [c]) := by
                    rw [← HF1.out, FL_snoc, take_succ_some HP.out]
                    unfold toNs
                    rw [List.map_append]
                    rfl
                  rw [← hTK] at hgrow
                  have HT9 := hide hgrow
                  clear hgrow
                  go_upto_region 41 with (fail)
                  go_wp2
                  go_roundg (L.length - (k + 1))
                  case measure => rw [HM.out]; omega
                  case rel => exact ⟨k + 1, _, by omega, by go_num, HT9.out, hfw9.set (.inl (by simp)) _, rfl⟩
                · obtain rfl : k = L.length := by omega
                  rw [List.take_length] at HT6
                  have hb6 := HB4.out.fr hf6 (by simp)
                  have HF6 := hide hf6
                  have hord : (newRM l).ord = ord := by
                    show greedy l.length (toNs (idLinks 0 l)) = ord
                    rw [HLL.out, HORD.out]
                  have hL : (newRM l).L = toNs L := by
                    show toNs (idLinks 0 l) = toNs L
                    rw [HLL.out]
                  have HLOW : Hid (∀ j, j < 2 * l.length → ∃ A c, V j = .slice A (FL (toNs L) j).length c ∧ Row wr A ((FL (toNs L) j).map nv) ∧ ∀ ad, A = some ad → ad.block ≠ g + 1 ∧ ad.block ≠ g ∧ ad.block < wr.heap.size ∧ w.heap.size ≤ ad.block) := hide (fun j hj => by
                    obtain ⟨A1, c1, e1, -, hr1, hb1⟩ := own_slice (HT6.out.rows j hj)
                    refine ⟨A1, c1, e1, hr1, fun ad e => ?_⟩
                    obtain ⟨hlo1, hlt1, cs, hbk⟩ := own_block (HT6.out.rows j hj) (g := ad.block) (by rw [e1, e]; rfl)
                    have hw4 := hfr4.size
                    exact ⟨Blk.ne_ hbk hb6 (by decide), Blk.ne_ hbk HT6.out.blk (by decide), hlt1, by omega⟩)
                  have HRO6 := hide (HRO4.out.fr HF6.out (fun ad e hm => by have := (HAO.out ad e).1; have := List.mem_singleton.1 hm; omega))
                  have HORD2 := hide hord
                  have HL2 := hide hL
                  have HB6 := hide hb6
                  clear hord hL hb6 HM hf6
                  go_wp2
                  go_ret2
                  refine .inr ⟨HNE3.out, ⟨g + 1, g, wr.heap.size, w.heap.size, l.length, Ao, co, fun i => V (2 * i), fun i => V (2 * i + 1)⟩, rfl, ⟨?_, HT6.out.blk, fun i hi => ?_, fun i hi => ?_, ⟨?_, ?_⟩, ⟨HB6.out.lt, HT6.out.blk.lt⟩, ⟨?_, hgb⟩⟩, rfl, Nat.le_refl _, hfr4.step HF6.out (fun i hi => .inr (by rw [List.mem_singleton.1 hi]; exact hgb))⟩
                  · rw [HORD2.out]
                    exact HB6.out
                  · have hi2 : i < l.length := hi
                    obtain ⟨A1, c1, e1, hr1, hl1⟩ := HLOW.out (2 * i) (by omega)
                    have hF : FL (toNs L) (2 * i) = supL (newRM l).L i := by
                      rw [HL2.out]
                      unfold FL
                      rw [if_pos (by omega), show 2 * i / 2 = i by omega]
                    rw [hF] at e1 hr1
                    exact ⟨A1, c1, e1, hr1, hl1⟩
                  · have hi2 : i < l.length := hi
                    obtain ⟨A1, c1, e1, hr1, hl1⟩ := HLOW.out (2 * i + 1) (by omega)
                    have hF : FL (toNs L) (2 * i + 1) = conL (newRM l).L i := by
                      rw [HL2.out]
                      unfold FL
                      rw [if_neg (by omega), show (2 * i + 1) / 2 = i by omega]
                    rw [hF] at e1 hr1
                    exact ⟨A1, c1, e1, hr1, hl1⟩
                  · rw [HORD2.out]
                    exact HRO6.out
                  · exact fun ad e => by
                      have h1 := HAO.out ad e
                      have h2 := HB6.out.lt
                      exact ⟨show ad.block ≠ g + 1 by omega, show ad.block ≠ g by omega, show ad.block < wr.heap.size by omega, h1.2⟩
                  · show w.heap.size ≤ g + 1
                    omega
          · have hb : (((orderM (l.length : Int) L).2) != 0) = true := by simp [hz]
            have HZ := hide hz
            clear hz
            go_wp2
            go_ret2
            exact .inl ⟨by rw [HNE2.out]; exact HZ.out, by rw [HNE2.out]; rfl, hfr2⟩
end Go.Proofs.Ytdocdgghphhdpaa

