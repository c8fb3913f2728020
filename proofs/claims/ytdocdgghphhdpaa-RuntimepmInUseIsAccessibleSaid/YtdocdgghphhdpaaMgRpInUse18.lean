/- Walks: Get. -/
import Derived.Test.YtdocdgghphhdpaaMgRpInUse17
import Derived.Test.YtdocdgghphhdpaaMgRpInUse0
import Derived.Test.YtdocdgghphhdpaaProg
import Derived.Laws.MakeOwn
namespace Go.Proofs.Ytdocdgghphhdpaa
open Go.RowKit

section
variable {w : World} {P : ML} {M : RM} {s : RS}
def GtRel (w : World) (P : ML) (M : RM) (base gr : Nat) (r : Nat → Bool) (now : Nat) (p0 : RS × List POp) (m : Nat) (v i : Value) (wr : World) : Prop :=
  ∃ (j : Nat) (p : RS × List POp), j ≤ M.ord.length ∧ i = .int .i64 (j : Int) ∧ p = (M.ord.take j).foldl (onStep r now) p0 ∧ MgIn wr P M p.1 ∧ wr.ownsRow base 148 3 v p.2.length (pocs p.2) ∧ Mks wr gr M.n r ∧ p.2.length ≤ 100 + j ∧ FrM P base w wr ∧ m = M.ord.length - j
theorem Mks.fr {w' : World} {g n : Nat} {r : Nat → Bool} (h : Mks w g n r) {T : List Nat} (k : Fr T w w') (hg : g ∉ T) : Mks w' g n r := Blk.fr h k hg
set_option maxHeartbeats 8000000 in
theorem get28_any (h : MgIn w P M s) (hM : MOk M) (hs : SOk M s) (ht : P.top ≤ w.heap.size) (hu : ∀ i, s.use i < 4096) (d : Int) (t : Nat) :
    Calls Try.prog 79 #[.pointer (some ⟨P.b, 0, none⟩), .int .i64 d, uv t] w (CallRet w P M (getC M s d t)) := by
  obtain ⟨i0, hi0, hi1⟩ := info_parts28 pop_info
  have HI : Hid (Try.prog.info? 148 = some i0 ∧ i0.zero = some (.agg #[.int .i64 0, .bool false, .int .u64 0]) ∧ i0.size = 3 ∧ i0.bytes = 24) := hide (by
    simp at hi1
    exact ⟨hi0, hi1⟩)
  have HIN := hide h
  have HMO := hide hM
  have HSO := hide hs
  have HU := hide hu
  clear h hM hs hu hi0 hi1
  go_enter Try.func79, Try.ntmps79
  go_wp2_with fail
  refine (exists28_any HIN.out d).mono ?_
  rintro e w1 ⟨rfl, rfl⟩
  by_cases hd : 0 ≤ d ∧ d < M.n
  · rw [decide_eq_true hd]
    go_wp2_with fail
    refine (permitted28_any HIN.out t).mono ?_
    rintro e w1 ⟨rfl, rfl⟩
    by_cases hp : s.clk ≤ t ∧ t ≤ 1152921504606846976
    · rw [decide_eq_true hp]
      have htl := hp.2
      have HD : Hid (getC M s d t = ((getM M s d.toNat t).1, (getM M s d.toNat t).2, 0)) := hide (by unfold getC; rw [if_pos ⟨hd, hp⟩])
      obtain ⟨k, rfl⟩ := Int.eq_ofNat_of_zero_le hd.1
      rw [Int.toNat_natCast] at HD
      have hk : k < M.n := by omega
      have hki : (k : Int) < (M.n : Int) := by omega
      have c2 : w.cell? ⟨P.b, 2, none⟩ = some (.int .u64 (s.clk : Int)) := HIN.out.blk.cell 2
      have f2 := HIN.out.blk.frozen 2
      have HIN2 := hide (HIN.out.tick t)
      have hfm : FrM P w.heap.size w (w.setCell ⟨P.b, 2, none⟩ (uv t)) := (FrM.refl _ _ _).set (.inl rfl) _
      have hsz : (w.setCell ⟨P.b, 2, none⟩ (uv t)).heap.size = w.heap.size := by simp [World.setCell]
      clear hd hp
      go_wp2_with fail
      rw [show (Value.int .u64 (t : Int)) = uv t from rfl]
      clear c2 f2
      generalize w.setCell ⟨P.b, 2, none⟩ (uv t) = w2 at HIN2 hfm hsz ⊢
      refine (expire28_any HIN2.out HMO.out (HSO.out.tick htl) htl ht (by omega) (ops := []) (own_nil _ _ _ _) (by simp)).mono ?_
      rintro e w3 ⟨v, rfl, hin3, hso3, hown3, hfm3⟩
      have HGM : Hid (getM M s k t = M.ord.foldl (onStep (reqM M k) t) (useS (expM M t { s with clk := t } []).1 k ((expM M t { s with clk := t } []).1.use k + 1), (expM M t { s with clk := t } []).2)) := hide rfl
      have HOL : Hid ((expM M t { s with clk := t } []).2.length ≤ 100) := hide (by
        have h1 := expK_len (M := M) t (M.n + 1) { s with clk := t } []
        have h2 := nAct_le M { s with clk := t }
        have h3 := HMO.out.n
        unfold expM
        simp at h1
        omega)
      have HUP : Hid ((expM M t { s with clk := t } []).1.use k < 4096) := hide (by
        unfold expM
        rw [(expK_use t _ _ _).1]
        exact HU.out k)
      generalize expM M t { s with clk := t } [] = E at hin3 hso3 hown3 HGM HOL HUP
      obtain ⟨A3, c3, rfl, -, -, -⟩ := own_slice hown3
      have hfm03 := hfm.trans hfm3
      have c0 : w3.cell? ⟨P.b, 0, none⟩ = some (.slice (some ⟨P.g, 0, none⟩) M.n P.cg) := hin3.blk.cell 0
      have c4 : w3.cell? ⟨P.g, k * 6 + 4, none⟩ = some (.int .i64 (E.1.use k : Int)) := hin3.cell hk (by omega)
      have f4 := hin3.frozen (k * 6 + 4)
      obtain ⟨u, hue1⟩ : ∃ u : Nat, u = E.1.use k + 1 := ⟨_, rfl⟩
      have hwu : IntKind.i64.wrap ((E.1.use k : Int) + 1) = (u : Int) := by have := HUP.out; rw [IntWalk.i64_in _ (by omega)]; omega
      rw [← hue1] at HGM
      have HIN4 := hide (hin3.put (stvs_use P.S P.C M E.1 hk u) rfl)
      have HOWN4 := hide (own_fr hown3 ((Fr.refl [P.g] w3).set (p := ⟨P.g, k * 6 + 4, none⟩) (.inl (by simp)) (nv u)) (fun y hy hm => hin3.row_own hown3 (.inr rfl) y hy (List.mem_singleton.1 hm)))
      have hfm4 := hfm03.set (p := ⟨P.g, k * 6 + 4, none⟩) (.inr (.inl rfl)) (nv u)
      clear hin3 hown3 hso3 hue1
      go_upto_region 6 with (fail)
      rw [show (Value.int .i64 (u : Int)) = nv u from rfl]
      generalize w3.setCell ⟨P.g, k * 6 + 4, none⟩ (nv u) = w4 at HIN4 HOWN4 hfm4 ⊢
      clear c0 c4 f4 hwu
      have hz4 := hfm4.size
      go_wp2_with fail
      refine (required28_any HIN4.out HMO.out (by omega) hk).mono ?_
      rintro e w5 ⟨gr, cr, rfl, hmk, hgr, hf5⟩
      have HIN5 := hide (HIN4.out.fr0 hf5)
      have HOWN5 := hide (own_fr HOWN4.out hf5 (fun _ _ => by simp))
      have HMK := hide hmk
      have hfm5 := hfm4.call hf5
      have c1 : w5.cell? ⟨P.b, 1, none⟩ = some (.slice P.Ao M.ord.length P.co) := HIN5.out.blk.cell 1
      have hbs : w.heap.size ≤ w5.heap.size := hfm5.size
      have hol64 : M.ord.length ≤ 64 := by have := HMO.out.ol; have := HMO.out.n; omega
      have hn64 := HMO.out.n
      generalize useS E.1 k u = s4 at HIN4 HIN5 HGM
      generalize reqM M k = r at HMK HGM hmk
      clear hmk HIN4 HOWN4
      go_wp2
      clear c1
      obtain ⟨Ao, hAo⟩ : ∃ Ao, Ao = P.Ao := ⟨_, rfl⟩
      rw [← hAo]
      have HAO := hide hAo
      clear hAo
      go_loopg [8, 48] M.ord.length (fun m v i wr => GtRel w P M w.heap.size gr r t (s4, E.2) m v i wr)
      case atStart => exact ⟨0, (s4, E.2), by omega, rfl, rfl, HIN5.out, HOWN5.out, HMK.out, by have := HOL.out; simpa using this, hfm5, rfl⟩
      case round =>
        obtain ⟨j, p, hj, rfl, hpe, hin, hown, hmk, hpl, hfmr, hmm⟩ := hrel
        obtain ⟨A8, c8, rfl, -, -, -⟩ := own_slice hown
        have HM := hide hmm
        have HPE := hide hpe
        have HINr := hide hin
        have HOWNr := hide hown
        have HMKr := hide hmk
        clear hmm hpe hin hown hmk HIN5 HOWN5 HMK hfm5
        by_cases hlt : j < M.ord.length
        · obtain ⟨x, hx⟩ : ∃ x, M.ord[j]? = some x := ⟨_, List.getElem?_eq_getElem hlt⟩
          have hxn : x < M.n := HMO.out.ord x (List.mem_of_getElem? hx)
          obtain ⟨oa, oo, eA, q1⟩ := HINr.out.ord.1.at_ (i := j) (u := nv x) (by rw [List.getElem?_map, hx]; rfl)
          rw [← HAO.out] at eA
          subst eA
          have HTK : Hid ((M.ord.take (j + 1)).foldl (onStep r t) (s4, E.2) = onStep r t p x) := hide (by
            obtain ⟨h1, h2⟩ := List.getElem?_eq_some_iff.1 hx
            rw [List.take_succ_eq_append_getElem h1, h2, List.foldl_append, ← HPE.out]
            rfl)
          have hjl : (j : Int) < (M.ord.length : Int) := by omega
          have hxi : (x : Int) < (M.n : Int) := by omega
          have cr' := HMKr.out.get hxn
          have c0 : wr.cell? ⟨P.b, 0, none⟩ = some (.slice (some ⟨P.g, 0, none⟩) M.n P.cg) := HINr.out.blk.cell 0
          have c3x : wr.cell? ⟨P.g, x * 6 + 3, none⟩ = some (.bool (p.1.act x)) := HINr.out.cell hxn (by omega)
          clear hx
          cases hrx : r x with
          | false =>
            rw [hrx] at cr'
            have HE : Hid (onStep r t p x = p) := hide (by unfold onStep; rw [if_neg (fun h => by rw [hrx] at h; cases h.1)])
            clear hrx
            go_wp2
            go_roundg (M.ord.length - (j + 1))
            case measure => rw [HM.out]; omega
            case rel => exact ⟨j + 1, p, by omega, by go_num, by rw [HTK.out, HE.out], HINr.out, HOWNr.out, HMKr.out, by omega, hfmr, rfl⟩
          | true =>
            rw [hrx] at cr'
            cases hax : p.1.act x with
            | true =>
              rw [hax] at c3x
              have HE : Hid (onStep r t p x = p) := hide (by unfold onStep; rw [if_neg (fun h => by rw [hax] at h; cases h.2)])
              clear hrx hax
              go_wp2
              go_roundg (M.ord.length - (j + 1))
              case measure => rw [HM.out]; omega
              case rel => exact ⟨j + 1, p, by omega, by go_num, by rw [HTK.out, HE.out], HINr.out, HOWNr.out, HMKr.out, by omega, hfmr, rfl⟩
            | false =>
              rw [hax] at c3x
              have HE : Hid (onStep r t p x = ({ p.1 with act := setF p.1.act x true }, p.2 ++ [⟨x, true, t⟩])) := hide (by unfold onStep; rw [if_pos ⟨hrx, hax⟩])
              have f3 := HINr.out.frozen (x * 6 + 3)
              have HIN6 := hide (HINr.out.put (stvs_act P.S P.C M p.1 hxn true) rfl)
              have HOWN6 := hide (own_fr HOWNr.out ((Fr.refl [P.g] wr).set (p := ⟨P.g, x * 6 + 3, none⟩) (.inl (by simp)) (.bool true)) (fun y hy hm => HINr.out.row_own HOWNr.out (.inr rfl) y hy (List.mem_singleton.1 hm)))
              have HMK6 := hide (HMKr.out.fr ((Fr.refl [P.g] wr).set (p := ⟨P.g, x * 6 + 3, none⟩) (.inl (by simp)) (.bool true)) (fun hm => Blk.ne_ HMKr.out HINr.out.row (by decide) (List.mem_singleton.1 hm)))
              have hfm6 := hfmr.set (p := ⟨P.g, x * 6 + 3, none⟩) (.inr (.inl rfl)) (.bool true)
              clear hrx hax
              go_upto_region 12 with (fail)
              generalize wr.setCell ⟨P.g, x * 6 + 3, none⟩ (.bool true) = w6 at HIN6 HOWN6 HMK6 hfm6 ⊢
              clear c0 c3x f3 cr' q1
              have hz6 : w.heap.size ≤ w6.heap.size + 1 := by have := hfm6.size; omega
              go_wp2_with (first
                | (at_builtin
                   refine wpList_append_row _ rfl (.tmp 74) (.tmp 78) _ rfl w.heap.size 148 i0 (.agg #[.int .i64 0, .bool false, .int .u64 0]) 3 24 Try.underlying96 HI.out.1 HI.out.2.1 HI.out.2.2.1 HI.out.2.2.2 rfl (by omega) (.slice A8 p.2.length c8) p.2.length (pocs p.2) rfl
                     (own_fr HOWN6.out ((Fr.refl [] _).alloc _) (fun _ _ => by simp)) (some ⟨w6.heap.size, 0, none⟩) 1 1 [.int .i64 (x : Int), .bool true, .int .u64 (t : Int)] rfl rfl (row_three w6 _ _ _ _) (by intro u hu; simp at hu; rcases hu with rfl | rfl | rfl <;> rfl) (by simp only [maxLen]; omega) (by omega) (by simpa using hz6) ?_
                   intro v1 w7 hown7 hg7 hat7))
              have hf67 : Fr (Value.slice A8 p.2.length c8).ownBlock.toList w6 w7 := ((Fr.refl _ w6).alloc _).trans (Fr.of_grown hg7)
              have HOB : Hid (∀ y ∈ (Value.slice A8 p.2.length c8).ownBlock.toList, w.heap.size ≤ y) := hide (fun y hy => (own_block HOWN6.out (by simpa using hy)).1)
              have HMK7 := hide (HMK6.out.fr hf67 (fun hm => by
                obtain ⟨_, _, cs, hb⟩ := own_block HOWN6.out (show (Value.slice A8 p.2.length c8).ownBlock = some gr by simpa using hm)
                exact Blk.ne_ hb HMK6.out (by decide) rfl))
              go_roundg (M.ord.length - (j + 1))
              case measure => rw [HM.out]; omega
              case rel =>
                refine ⟨j + 1, ({ p.1 with act := setF p.1.act x true }, p.2 ++ [⟨x, true, t⟩]), by omega, by go_num, by rw [HTK.out, HE.out], HIN6.out.fr hf67 (fun y hy => Nat.le_trans ht (HOB.out y hy)), ?_, HMK7.out, by rw [List.length_append, List.length_singleton]; omega, hfm6.trans ⟨_, fun y hy => .inr (.inr (HOB.out y hy)), hf67⟩, rfl⟩
                rw [List.length_append, List.length_singleton, pocs_snoc]
                exact hown7
        · have hjl : ¬ (j : Int) < (M.ord.length : Int) := by omega
          rw [List.take_of_length_le (by omega), ← HGM.out] at HPE
          have HPG := hide HPE.out.symm
          go_wp2
          go_ret2
          refine ⟨.slice A8 p.2.length c8, by rw [HD.out]; rfl, by rw [HD.out, HPG.out]; exact HINr.out, by rw [HD.out, HPG.out]; exact HOWNr.out, hfmr.two⟩
    · rw [decide_eq_false hp]
      have HR : Hid (getC M s d t = (s, [], 1)) := hide (by unfold getC; rw [if_neg (fun h => hp h.2)])
      clear hp hd
      go_wp2
      go_ret2
      exact ⟨_, by rw [HR.out]; rfl, by rw [HR.out]; exact HIN.out, by rw [HR.out]; exact own_nil _ _ _ _, Fr.refl _ _⟩
  · rw [decide_eq_false hd]
    have HR : Hid (getC M s d t = (s, [], 1)) := hide (by unfold getC; rw [if_neg (fun h => hd h.1)])
    clear hd
    go_wp2
    go_ret2
    exact ⟨_, by rw [HR.out]; rfl, by rw [HR.out]; exact HIN.out, by rw [HR.out]; exact own_nil _ _ _ _, Fr.refl _ _⟩
end
end Go.Proofs.Ytdocdgghphhdpaa

/- Idle devices and calls in memory. -/
namespace Go.Proofs.Ytdocdgghphhdpaa
open Go.RowKit

/-- An idle device: parent, the slice of its suppliers, delay; the suppliers. -/
structure ID where
  par : Int
  sv : Value
  dl : Nat
  sup : List Int
def idc (x : ID) : List Value := [.int .i64 x.par, x.sv, .int .u64 (x.dl : Int)]
theorem idc_len (x : ID) : (idc x).length = 3 := rfl
def idcs (l : List ID) : List Value := l.flatMap idc
theorem idcs_length (l : List ID) : (idcs l).length = l.length * 3 := flat_length idc_len l
theorem idcs_snoc (l : List ID) (x : ID) : idcs (l ++ [x]) = idcs l ++ idc x := by simp [idcs]
def SupAt (w : World) (x : ID) : Prop := ∃ A cp, x.sv = .slice A x.sup.length cp ∧ Row w A (x.sup.map (Value.int .i64))
structure IdWf (w : World) (x : ID) : Prop where
  at_ : SupAt w x
  len : x.sup.length ≤ maxLen
  dl : x.dl ≤ 18446744073709551615
  par : -9223372036854775808 ≤ x.par ∧ x.par ≤ 9223372036854775807
  sup : ∀ q ∈ x.sup, -9223372036854775808 ≤ q ∧ q ≤ 9223372036854775807
/-- The devices lie in a row, their suppliers behind them. -/
def IdsAt (w : World) (A : Option Addr) (l : List ID) : Prop := Row w A (idcs l) ∧ ∀ x ∈ l, SupAt w x
theorem SupAt.fr0 {w w' : World} {x : ID} (h : SupAt w x) (k : Fr [] w w') : SupAt w' x := by
  obtain ⟨A, cp, e, hr⟩ := h
  exact ⟨A, cp, e, hr.fr0 k⟩
theorem IdsAt.fr0 {w w' : World} {A : Option Addr} {l : List ID} (h : IdsAt w A l) (k : Fr [] w w') : IdsAt w' A l := ⟨h.1.fr0 k, fun x hx => (h.2 x hx).fr0 k⟩
theorem IdsAt.el {w : World} {A : Option Addr} {l : List ID} (h : IdsAt w A l) {i : Nat} {x : ID} (hx : l[i]? = some x) :
    ∃ ob oo A' cp, A = some ⟨ob, oo, none⟩ ∧ x.sv = .slice A' x.sup.length cp ∧ w.cell? ⟨ob, oo + i * 3, none⟩ = some (.int .i64 x.par) ∧ w.cell? ⟨ob, oo + i * 3 + 1, none⟩ = some (.slice A' x.sup.length cp) ∧ w.cell? ⟨ob, oo + i * 3 + 2, none⟩ = some (.int .u64 (x.dl : Int)) ∧ Row w A' (x.sup.map (Value.int .i64)) := by
  obtain ⟨ob, oo, e, hc⟩ := Row.el (f := idc) idc_len (by omega) h.1 hx
  obtain ⟨A', cp, e2, hr⟩ := h.2 x (List.mem_of_getElem? hx)
  exact ⟨ob, oo, A', cp, e, e2, hc 0 _ rfl, by rw [← e2]; exact hc 1 _ rfl, hc 2 _ rfl, hr⟩
def zeroID : ID := ⟨0, .slice none 0 0, 0, []⟩
theorem made_id (n : Nat) : madeCells (Value.agg #[.int .i64 0, .slice none 0 0, .int .u64 0]).cells (n * 3) = (idcs (List.replicate n zeroID)).toArray := by
  apply Array.ext_getElem?
  intro i
  have hsz : (idcs (List.replicate n zeroID)).length = n * 3 := by rw [idcs_length, List.length_replicate]
  by_cases hi : i < n * 3
  · have h1 : i / 3 * 3 + i % 3 = i := by omega
    have h2 := flat_get (f := idc) idc_len (l := List.replicate n zeroID) (i := i / 3) (j := i % 3) (a := zeroID) (by rw [List.getElem?_replicate, if_pos (by omega)]) (by omega)
    rw [h1] at h2
    have h3 : (madeCells (Value.agg #[.int .i64 0, .slice none 0 0, .int .u64 0]).cells (n * 3))[i]? = some ((Value.agg #[.int .i64 0, .slice none 0 0, .int .u64 0]).cells[i % 3]!) := by
      unfold madeCells
      rw [Array.getElem?_map, Array.getElem?_eq_getElem (by simpa using hi)]
      simp
      rfl
    rw [h3, List.getElem?_toArray]
    refine Eq.trans ?_ h2.symm
    have hr : i % 3 < 3 := by omega
    generalize i % 3 = r at hr ⊢
    have : r = 0 ∨ r = 1 ∨ r = 2 := by omega
    rcases this with rfl | rfl | rfl <;> rfl
  · rw [Array.getElem?_eq_none (by rw [size_madeCells]; omega), Array.getElem?_eq_none (by rw [List.size_toArray, hsz]; omega)]
theorem idcs_set {B : List ID} {i : Nat} (hi : i < B.length) (d : ID) : (((idcs B).toArray.setIfInBounds (i * 3) (.int .i64 d.par)).setIfInBounds (i * 3 + 1) d.sv).setIfInBounds (i * 3 + 2) (.int .u64 (d.dl : Int)) = (idcs (B.set i d)).toArray := by
  simp only [List.setIfInBounds_toArray]
  congr 1
  apply List.ext_getElem?
  intro t
  have l1 : (idcs B).length = B.length * 3 := idcs_length B
  have l2 : (idcs (B.set i d)).length = B.length * 3 := by rw [idcs_length, List.length_set]
  by_cases ht : t < B.length * 3
  · have hq : t / 3 < B.length := by omega
    have h1 := flat_get (f := idc) idc_len (List.getElem?_eq_getElem hq) (Nat.mod_lt t (show 0 < 3 by omega))
    obtain ⟨E, hE⟩ : ∃ E, (B.set i d)[t / 3]? = some E := ⟨_, List.getElem?_eq_getElem (by rw [List.length_set]; exact hq)⟩
    have h2 := flat_get (f := idc) idc_len hE (Nat.mod_lt t (show 0 < 3 by omega))
    rw [show t / 3 * 3 + t % 3 = t by omega] at h1 h2
    have h1 : (idcs B)[t]? = (idc B[t / 3])[t % 3]? := h1
    have h2 : (idcs (B.set i d))[t]? = (idc E)[t % 3]? := h2
    rw [h2, List.getElem?_set, List.getElem?_set, List.getElem?_set, h1]
    simp only [List.length_set, l1]
    rw [List.getElem?_set] at hE
    have hr : t % 3 = 0 ∨ t % 3 = 1 ∨ t % 3 = 2 := by omega
    by_cases e : t / 3 = i
    · rw [if_pos e.symm, if_pos (by omega)] at hE
      injection hE with hE
      subst hE
      rcases hr with hr | hr | hr
      · rw [if_neg (by omega), if_neg (by omega), if_pos (by omega), if_pos (by omega), hr]; rfl
      · rw [if_neg (by omega), if_pos (by omega), if_pos (by omega), hr]; rfl
      · rw [if_pos (by omega), if_pos (by omega), hr]; rfl
    · rw [if_neg (Ne.symm e), List.getElem?_eq_getElem hq] at hE
      injection hE with hE
      subst hE
      rw [if_neg (by omega), if_neg (by omega), if_neg (by omega)]
  · rw [List.getElem?_eq_none (by simp only [List.length_set, l1]; omega), List.getElem?_eq_none (by rw [l2]; omega)]
/-- A call. -/
structure CL where
  kind : Int
  dev : Int
  wait : Nat
  raw : Bool
def clc (x : CL) : List Value := [.int .i64 x.kind, .int .i64 x.dev, .int .u64 (x.wait : Int), .bool x.raw]
theorem clc_len (x : CL) : (clc x).length = 4 := rfl
def clcs (l : List CL) : List Value := l.flatMap clc
theorem Row.cl {w : World} {A : Option Addr} {l : List CL} (h : Row w A (clcs l)) {i : Nat} {x : CL} (hx : l[i]? = some x) :
    ∃ ob oo, A = some ⟨ob, oo, none⟩ ∧ w.cell? ⟨ob, oo + i * 4, none⟩ = some (.int .i64 x.kind) ∧ w.cell? ⟨ob, oo + i * 4 + 1, none⟩ = some (.int .i64 x.dev) ∧ w.cell? ⟨ob, oo + i * 4 + 2, none⟩ = some (.int .u64 (x.wait : Int)) ∧ w.cell? ⟨ob, oo + i * 4 + 3, none⟩ = some (.bool x.raw) := by
  obtain ⟨ob, oo, e, hc⟩ := Row.el (f := clc) clc_len (by omega) h hx
  exact ⟨ob, oo, e, hc 0 _ rfl, hc 1 _ rfl, hc 2 _ rfl, hc 3 _ rfl⟩
end Go.Proofs.Ytdocdgghphhdpaa

