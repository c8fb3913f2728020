/- Walks over the reference of chapter 28: Get. -/
import Derived.Test.YtbnfdpemfmeldaaRfW4Mg
import Derived.Test.YtbnfdpemfmeldaaGraR7Mg
import Derived.Test.YtbnfdpemfmeldaaMgRuntimeCalls12
namespace Go.Proofs.Ytbnfdpemfmeldaa
open Go.RowKit

section
variable {w : World} {P : RL} {l : List ID} {s : RS} {M : RM}
theorem keep2 {W W' : World} {p q : Addr} {v u : Value} (h : Fr [] W W') (c0 : W.cell? p = some v) (c1 : W.cell? q = some u) : Fr [] W W' ∧ W'.cell? p = some v ∧ W'.cell? q = some u := ⟨h, h.cell c0 (by simp), h.cell c1 (by simp)⟩
/-- What the device k requires, in ascending order. -/
def needF (n : Nat) (r : Nat → Bool) : List Nat := (List.range n).filter r
theorem needF_nodup (n : Nat) (r : Nat → Bool) : (needF n r).Nodup := List.Pairwise.filter _ List.nodup_range
theorem needF_mem {n : Nat} {r : Nat → Bool} {x : Nat} : x ∈ needF n r ↔ x < n ∧ r x = true := by
  unfold needF
  rw [List.mem_filter, List.mem_range]
theorem need_req (C : RCtx M l) {k : Nat} (hk : k < l.length) : closM false (l.length : Int) (idLinks 0 l) [(k : Int)] = (needF l.length (reqM M k), 0) := by
  have hlt : ∀ p ∈ toNs (idLinks 0 l), p.1 < l.length ∧ p.2 < l.length := toNs_lt (basicM_zero C.hB).1.2.2.2
  rw [closM_ok C.hB (fun x hx => by rw [List.mem_singleton.1 hx]; omega)]
  refine Prod.ext ?_ rfl
  show (List.range l.length).filter _ = _
  unfold needF
  apply List.filter_congr
  intro i hi
  have hL : M.L = toNs (idLinks 0 l) := by rw [C.hm]; rfl
  rw [show ori false (toNs (idLinks 0 l)) = toNs (idLinks 0 l) from rfl, Bool.eq_iff_iff, rchB_iff hlt, req_iff C.hO, hL]
  show Rch _ [((k : Int)).toNat] i ↔ _
  rw [Int.toNat_natCast]
  constructor
  · rintro ⟨u, hu, e⟩
    rw [List.mem_singleton.1 hu] at e
    exact e.imp Eq.symm id
  · rintro (e | e)
    · exact ⟨k, by simp, .inl e.symm⟩
    · exact ⟨k, by simp, .inr e⟩
theorem RCtx.order (C : RCtx M l) : orderM (l.length : Int) (idLinks 0 l) = (M.ord, 0) := by
  have ho : M.ord = greedy l.length (toNs (idLinks 0 l)) := by rw [C.hm]; rfl
  have hl := C.hM.ol
  rw [C.n] at hl
  unfold orderM
  rw [if_pos C.hB, Int.toNat_natCast, ← ho, if_pos hl]
/-- What the first q of the needed devices do at the device x. -/
def GqSt (r : Nat → Bool) (t : Nat) (p : RS × List POp) (x : Nat) (F : List Nat) (q : Nat) (st : RS × List POp) : Prop := (x ∉ F.take q ∧ st = p) ∨ (x ∈ F.take q ∧ st = onStep r t p x)
/-- A row of ints of the call's own stays where only blocks of another kind turn. -/
theorem own_on {w : World} {P : RL} {l : List ID} {s : RS} (h : RgIn w P l s) {base : Nat} {v : Value} {n : Nat} {xs : List Value} (ho : w.ownsRow base 3 1 v n xs) (u : Value) (j : Nat) : (w.setCell ⟨P.ga, j, none⟩ u).ownsRow base 3 1 v n xs := own_fr ho ((Fr.refl [P.ga] w).set (.inl (by simp)) u) (fun y hy hm => by
  obtain ⟨_, _, cs, hb⟩ := own_block ho hy
  exact Blk.ne_ hb h.on (by decide) (List.mem_singleton.1 hm))
def RfGRel (w : World) (P : RL) (M : RM) (l : List ID) (F : List Nat) (vF vO : Value) (base : Nat) (r : Nat → Bool) (now : Nat) (p0 : RS × List POp) (m : Nat) (v i : Value) (wr : World) : Prop :=
  ∃ (j : Nat) (p : RS × List POp), j ≤ M.ord.length ∧ i = .int .i64 (j : Int) ∧ p = (M.ord.take j).foldl (onStep r now) p0 ∧ RgIn wr P l p.1 ∧ wr.ownsRow base 47 3 v p.2.length (pocs p.2) ∧ p.2.length ≤ 100 + j ∧ wr.ownsRow base 3 1 vF F.length (F.map nv) ∧ wr.ownsRow base 3 1 vO M.ord.length (M.ord.map nv) ∧ FrR P base w wr ∧ m = M.ord.length - j
def RfQRel (w : World) (P : RL) (l : List ID) (O : List Nat) (vF vO : Value) (base : Nat) (r : Nat → Bool) (now x : Nat) (F : List Nat) (p : RS × List POp) (m : Nat) (v i : Value) (wr : World) : Prop :=
  ∃ (q : Nat) (st : RS × List POp), q ≤ F.length ∧ i = .int .i64 (q : Int) ∧ GqSt r now p x F q st ∧ RgIn wr P l st.1 ∧ wr.ownsRow base 47 3 v st.2.length (pocs st.2) ∧ wr.ownsRow base 3 1 vF F.length (F.map nv) ∧ wr.ownsRow base 3 1 vO O.length (O.map nv) ∧ FrR P base w wr ∧ m = F.length - q
theorem onStep_len (r : Nat → Bool) (t : Nat) (p : RS × List POp) (x : Nat) : (onStep r t p x).2.length ≤ p.2.length + 1 := by
  unfold onStep
  split
  · rw [List.length_append, List.length_singleton]; exact Nat.le_refl _
  · exact Nat.le_succ _
set_option maxHeartbeats 8000000 in
set_option maxRecDepth 100000 in
theorem rget28_any (C : RCtx M l) (h : RgIn w P l s) (hs : SOk M s) (hbb : P.bot ≤ P.top) (ht : P.top ≤ w.heap.size) (hu : ∀ i, s.use i < 4096) (d : Int) (t : Nat) :
    Calls Try.prog 43 #[.pointer (some ⟨P.b, 0, none⟩), .int .i64 d, uv t] w (CallRetR w P l (getC M s d t)) := by
  obtain ⟨i0, hi0, hi1⟩ := info_parts28 pop_info
  have HI : Hid (Try.prog.info? 47 = some i0 ∧ i0.zero = some (.agg #[.int .i64 0, .bool false, .int .u64 0]) ∧ i0.size = 3 ∧ i0.bytes = 24) := hide (by
    simp at hi1
    exact ⟨hi0, hi1⟩)
  have HC := hide C
  have HIN := hide h
  have HSO := hide hs
  have HU := hide hu
  have hMn := C.n
  have HMN := hide hMn
  have c0 : w.cell? ⟨P.b, 0, none⟩ = some (.slice P.Ad l.length P.cd) := h.blk.cell 0
  clear h hs hu hi0 hi1 C
  by_cases hd : 0 ≤ d ∧ d < M.n
  · obtain ⟨k, rfl⟩ := Int.eq_ofNat_of_zero_le hd.1
    have hk0 : ¬ (k : Int) < 0 := by omega
    have hkl : ¬ (l.length : Int) ≤ (k : Int) := by omega
    have hki : (k : Int) < (l.length : Int) := by omega
    have hk : k < l.length := by omega
    clear hMn
    go_enter Try.func43, Try.ntmps43
    go_wp2_with fail
    refine (bad28_any HIN.out t).mono ?_
    rintro e w1 ⟨rfl, rfl⟩
    by_cases hp : s.clk ≤ t ∧ t ≤ 1152921504606846976
    · rw [decide_eq_true hp]
      have htl := hp.2
      have HD : Hid (getC M s k t = ((getM M s k t).1, (getM M s k t).2, 0)) := hide (by unfold getC; rw [if_pos ⟨hd, hp⟩]; simp only [Int.toNat_natCast])
      have c2 : w.cell? ⟨P.b, 5, none⟩ = some (.int .u64 (s.clk : Int)) := HIN.out.blk.cell 5
      have f2 := HIN.out.blk.frozen 5
      have HIN2 := hide (HIN.out.tick t)
      have hfm : FrR P w.heap.size w (w.setCell ⟨P.b, 5, none⟩ (uv t)) := (FrR.refl _ _ _).set (.inl (by simp [RL.own])) _
      have hsz : (w.setCell ⟨P.b, 5, none⟩ (uv t)).heap.size = w.heap.size := by simp [World.setCell]
      clear hd hp
      go_wp2_with fail
      rw [show (Value.int .u64 (t : Int)) = uv t from rfl]
      clear c0 c2 f2
      generalize w.setCell ⟨P.b, 5, none⟩ (uv t) = w2 at HIN2 hfm hsz ⊢
      refine (rexpire28_any HIN2.out HC.out.hB HC.out.hm HC.out.hM (HSO.out.tick htl) htl ht hbb (by omega) (ops := []) (own_nil _ _ _ _) (by simp)).mono ?_
      rintro e w3 ⟨v, rfl, hin3, hso3, hown3, hfm3⟩
      have HGM : Hid (getM M s k t = M.ord.foldl (onStep (reqM M k) t) (useS (expM M t { s with clk := t } []).1 k ((expM M t { s with clk := t } []).1.use k + 1), (expM M t { s with clk := t } []).2)) := hide rfl
      have HOL := hide (expLen HC.out.hM { s with clk := t } t)
      have HUP : Hid ((expM M t { s with clk := t } []).1.use k < 4096) := hide (by
        unfold expM
        rw [(expK_use t _ _ _).1]
        exact HU.out k)
      generalize expM M t { s with clk := t } [] = E at hin3 hso3 hown3 HGM HOL HUP
      obtain ⟨A3, c3, rfl, -, -, -⟩ := own_slice hown3
      have hfm03 := hfm.trans hfm3
      have c3' : w3.cell? ⟨P.b, 3, none⟩ = some (.slice (some ⟨P.gu, 0, none⟩) l.length l.length) := hin3.blk.cell 3
      have u1 : w3.cell? ⟨P.gu, k, none⟩ = some (.int .i64 (E.1.use k : Int)) := hin3.us.cell hk
      have f4 := hin3.us.frozen k
      obtain ⟨u, hue1⟩ : ∃ u : Nat, u = E.1.use k + 1 := ⟨_, rfl⟩
      have hwu : IntKind.i64.wrap ((E.1.use k : Int) + 1) = (u : Int) := by have := HUP.out; rw [IntWalk.i64_in _ (by omega)]; omega
      rw [← hue1] at HGM
      have HIN4 := hide (hin3.use_ k u)
      have HOWN4 := hide (own_fr hown3 ((Fr.refl [P.gu] w3).set (p := ⟨P.gu, k, none⟩) (.inl (by simp)) (nv u)) (fun y hy hm => hin3.row_own hown3 (by simp [RL.own]) y hy (List.mem_singleton.1 hm)))
      have hfm4 := hfm03.set (p := ⟨P.gu, k, none⟩) (.inl (by simp [RL.own])) (nv u)
      clear hin3 hown3 hso3 hue1
      go_upto_region 6 with (fail)
      rw [show (Value.int .i64 (u : Int)) = nv u from rfl]
      generalize w3.setCell ⟨P.gu, k, none⟩ (nv u) = w4 at HIN4 HOWN4 hfm4 ⊢
      clear c3' u1 f4 hwu
      have c0 : w4.cell? ⟨P.b, 0, none⟩ = some (.slice P.Ad l.length P.cd) := HIN4.out.blk.cell 0
      have c1 : w4.cell? ⟨P.b, 1, none⟩ = some (.slice P.Al (idLinks 0 l).length P.cl) := HIN4.out.blk.cell 1
      have hl1 : (idLinks 0 l).length ≤ 1024 := (basicM_zero HC.out.hB).1.2.2.1
      have HNR := hide (need_req HC.out hk)
      have HRO := hide HC.out.order
      have HSUP : Hid (∀ (wx : World) (b : Nat), Fr [] w4 wx → Row wx (some ⟨b, 0, none⟩) [.int .i64 (k : Int)] → Calls Try.prog 55 #[.int .i64 (l.length : Int), .slice P.Al (idLinks 0 l).length P.cl, .slice (some ⟨b, 0, none⟩) 1 1] wx (ClosRet wx false (l.length : Int) (idLinks 0 l) [(k : Int)])) := hide (fun wx b hf hr => rsuppliers_any (l.length : Int) P.Al (some ⟨b, 0, none⟩) P.cl 1 (idLinks 0 l) [(k : Int)] wx (HIN4.out.lnk.fr0 hf) hr (by omega) (by simp))
      have hrw : Row (w4.alloc (.cells #[.int .i64 (k : Int)] 3)) (some ⟨w4.heap.size, 0, none⟩) [.int .i64 (k : Int)] := row_lit w4 #[.int .i64 (k : Int)] 3 rfl
      go_region_held3 (fun w' => Fr [] w4 w' ∧ w'.cell? ⟨P.b, 0, none⟩ = some (.slice P.Ad l.length P.cd) ∧ w'.cell? ⟨P.b, 1, none⟩ = some (.slice P.Al (idLinks 0 l).length P.cl)) (first | exact ⟨(Fr.refl _ _).drew, c0, c1⟩ | (refine keep2 ?_ c0 c1; (repeat (first | exact Fr.refl _ _ | refine Fr.drew ?_ | refine Fr.drewN ?_ _ | refine Fr.alloc ?_ _)); done) | (refine keep2 (Fr.call ?_ hf5) c0 c1; (repeat (first | exact Fr.refl _ _ | refine Fr.drew ?_ | refine Fr.drewN ?_ _ | refine Fr.alloc ?_ _))) | go_keep) (first | (go_at_call 55; refine (HSUP.out _ _ (by (repeat (first | exact Fr.refl _ _ | refine Fr.drew ?_ | refine Fr.drewN ?_ _ | refine Fr.alloc ?_ _))) (hrw.fr0 (by (repeat (first | exact Fr.refl _ _ | refine Fr.drew ?_ | refine Fr.drewN ?_ _ | refine Fr.alloc ?_ _))))).mono ?_; rintro e w5 ⟨v5, rfl, hown5, hf5⟩))
      have hf45 : Fr [] w4 w5 := Fr.call (((Fr.refl [] w4).alloc _).drew) hf5
      rw [HNR.out] at hown5 ⊢
      dsimp only at hown5 ⊢
      have HIN5 := hide (HIN4.out.fr0 hf45)
      have HOWN5 := hide (own_fr HOWN4.out hf45 (fun _ _ => by simp))
      have hfm5 := hfm4.call hf45
      replace c0 := hf45.cell c0 (by simp)
      replace c1 := hf45.cell c1 (by simp)
      obtain ⟨A5, c5, rfl, -, -, -⟩ := own_slice hown5
      replace hown5 := own_base hown5 (show w.heap.size ≤ _ by have := hfm4.size; simp; omega)
      have HNM := hide (fun x => needF_mem (n := l.length) (r := reqM M k) (x := x))
      have HND := hide (needF_nodup l.length (reqM M k))
      have hfl : (needF l.length (reqM M k)).length ≤ 64 := by
        have h1 := List.length_filter_le (reqM M k) (List.range l.length)
        have h2 := HC.out.hM.n
        rw [HMN.out] at h2
        rw [List.length_range] at h1
        unfold needF
        omega
      generalize needF l.length (reqM M k) = F at hown5 HNM HND hfl ⊢
      have HRF := hide hown5
      have HORD : Hid (∀ (wx : World), Fr [] w5 wx → Calls Try.prog 56 #[.int .i64 (l.length : Int), .slice P.Al (idLinks 0 l).length P.cl] wx (OrderRet wx (l.length : Int) (idLinks 0 l))) := hide (fun wx hf => rorder_any24 (l.length : Int) P.Al P.cl (idLinks 0 l) wx (HIN5.out.lnk.fr0 hf) (by omega))
      clear hown5 hf5 hf45 HIN4 HOWN4 hfm4 HSUP hrw HNR
      go_wp2
      go_region_held3 (fun w' => Fr [] w5 w' ∧ w'.cell? ⟨P.b, 0, none⟩ = some (.slice P.Ad l.length P.cd) ∧ w'.cell? ⟨P.b, 1, none⟩ = some (.slice P.Al (idLinks 0 l).length P.cl)) (first | exact ⟨(Fr.refl _ _).drew, c0, c1⟩ | (refine keep2 ?_ c0 c1; (repeat (first | exact Fr.refl _ _ | refine Fr.drew ?_ | refine Fr.drewN ?_ _ | refine Fr.alloc ?_ _)); done) | (refine keep2 (Fr.call ?_ hf6) c0 c1; (repeat (first | exact Fr.refl _ _ | refine Fr.drew ?_ | refine Fr.drewN ?_ _ | refine Fr.alloc ?_ _))) | go_keep) (first | (go_at_call 56; refine (HORD.out _ (by (repeat (first | exact Fr.refl _ _ | refine Fr.drew ?_ | refine Fr.drewN ?_ _ | refine Fr.alloc ?_ _)))).mono ?_; rintro e w6 ⟨v6, rfl, hown6, hf6⟩))
      have hf56 : Fr [] w5 w6 := Fr.call ((Fr.refl [] w5).drew) hf6
      rw [HRO.out] at hown6 ⊢
      dsimp only at hown6 ⊢
      have HIN6 := hide (HIN5.out.fr0 hf56)
      have HOWN6 := hide (own_fr HOWN5.out hf56 (fun _ _ => by simp))
      have hfm6 := hfm5.call hf56
      have HRF6 := hide (own_fr HRF.out hf56 (fun _ _ => by simp))
      obtain ⟨A6, c6, rfl, -, -, -⟩ := own_slice hown6
      have HRO6 := hide (own_base hown6 (show w.heap.size ≤ _ by have := hfm5.size; simp; omega))
      have hol64 : M.ord.length ≤ 64 := by have := HC.out.hM.ol; have := HC.out.hM.n; omega
      have hbs : w.heap.size ≤ w6.heap.size := hfm6.size
      clear hown6 hf6 hf56 HIN5 HOWN5 hfm5 HRF HORD HRO c0 c1
      generalize useS E.1 k u = s4 at HIN6 HGM
      generalize hrr : reqM M k = r at HGM HNM
      clear hrr
      go_wp2
      go_loopg [8, 13] M.ord.length (fun m v i wr => RfGRel w P M l F (.slice A5 F.length c5) (.slice A6 M.ord.length c6) w.heap.size r t (s4, E.2) m v i wr)
      case atStart => exact ⟨0, (s4, E.2), by omega, rfl, rfl, HIN6.out, HOWN6.out, by have := HOL.out; simpa using this, HRF6.out, HRO6.out, hfm6, rfl⟩
      case round =>
        obtain ⟨j, p, hj, rfl, hpe, hin, hown, hpl, hrf, hro, hfmr, hmm⟩ := hrel
        obtain ⟨A8, c8, rfl, -, -, -⟩ := own_slice hown
        have HM := hide hmm
        have HPE := hide hpe
        have HINr := hide hin
        have HOWNr := hide hown
        have HRFr := hide hrf
        have HROr := hide hro
        clear hmm hpe hin hown hrf hro HIN6 HOWN6 HRF6 HRO6 hfm6
        by_cases hlt : j < M.ord.length
        · obtain ⟨x, hx⟩ : ∃ x, M.ord[j]? = some x := ⟨_, List.getElem?_eq_getElem hlt⟩
          have hxn : x < l.length := by have := HC.out.hM.ord x (List.mem_of_getElem? hx); have := HMN.out; omega
          have HTK : Hid ((M.ord.take (j + 1)).foldl (onStep r t) (s4, E.2) = onStep r t p x) := hide (by
            obtain ⟨h1, h2⟩ := List.getElem?_eq_some_iff.1 hx
            rw [List.take_succ_eq_append_getElem h1, h2, List.foldl_append, ← HPE.out]
            rfl)
          have hjl : (j : Int) < (M.ord.length : Int) := by omega
          have hxi : (x : Int) < (l.length : Int) := by omega
          have HX := hide hx
          have HOS := hide (onStep_len r t p x)
          clear hx
          go_wp2
          go_loopg [8, 14] F.length (fun m v i wr => RfQRel w P l M.ord (.slice A5 F.length c5) (.slice A6 M.ord.length c6) w.heap.size r t x F p m v i wr)
          case atStart => exact ⟨0, p, by omega, rfl, .inl ⟨by simp, rfl⟩, HINr.out, HOWNr.out, HRFr.out, HROr.out, hfmr, rfl⟩
          case round =>
            clear HINr HOWNr HRFr HROr hfmr
            obtain ⟨q, st, hq, rfl, hgq, hin, hown, hrf, hro, hfmr, hmm⟩ := hrel
            obtain ⟨A8, c8, rfl, -, -, -⟩ := own_slice hown
            have HMq := hide hmm
            have HGQ := hide hgq
            have HINr := hide hin
            have HOWNr := hide hown
            have HRFr := hide hrf
            have HROr := hide hro
            clear hmm hgq hin hown hrf hro
            by_cases hql : q < F.length
            · obtain ⟨y, hy⟩ : ∃ y, F[q]? = some y := ⟨_, List.getElem?_eq_getElem hql⟩
              obtain ⟨A5', e5, e5', -, hrow5, -⟩ := own_slice HRFr.out
              obtain ⟨rfl, rfl⟩ : A5 = A5' ∧ c5 = e5 := by injection e5' with e1 e2 e3; exact ⟨e1, e3⟩
              obtain ⟨A6', e6, e6', -, hrow6, -⟩ := own_slice HROr.out
              obtain ⟨rfl, rfl⟩ : A6 = A6' ∧ c6 = e6 := by injection e6' with e1 e2 e3; exact ⟨e1, e3⟩
              obtain ⟨of, oof, rfl, q1⟩ := hrow5.at_ (i := q) (u := nv y) (by rw [List.getElem?_map, hy]; rfl)
              obtain ⟨oo, ooo, rfl, q2⟩ := hrow6.at_ (i := j) (u := nv x) (by rw [List.getElem?_map, HX.out]; rfl)
              have hqi : (q : Int) < (F.length : Int) := by omega
              have HTQ := hide (take_succ_some hy)
              have hynt : y ∉ F.take q := fun hm => by
                have h1 := HND.out
                rw [split_at_some hy, List.nodup_append] at h1
                exact h1.2.2 y hm y (List.mem_cons_self ..) rfl
              have HYN := hide hynt
              have hyF : r y = true := ((HNM.out y).1 (List.mem_of_getElem? hy)).2
              have HYF := hide hyF
              have c2 : wr.cell? ⟨P.b, 2, none⟩ = some (.slice (some ⟨P.ga, 0, none⟩) l.length l.length) := HINr.out.blk.cell 2
              have a1 : wr.cell? ⟨P.ga, x, none⟩ = some (.bool (st.1.act x)) := HINr.out.on.cell hxn
              clear hy e5' e6' hrow5 hrow6 hynt hyF
              by_cases hyx : y = x
              · subst hyx
                have hst : st = p := by
                  rcases HGQ.out with h | h
                  · exact h.2
                  · exact absurd h.1 HYN.out
                subst hst
                have e1 : ((y : Int) == (y : Int)) = true := by simp
                have HTM : Hid (y ∈ F.take (q + 1)) := hide (by rw [HTQ.out]; simp)
                have hyw : Blk wr P.ga 4 ((((List.range l.length).map st.1.act).map Value.bool).toArray) := HINr.out.on
                have hoga : oo ≠ P.ga := fun e => by
                  obtain ⟨_, _, cs, hb⟩ := own_block HROr.out (show (Value.slice (some ⟨oo, ooo, none⟩) M.ord.length c6).ownBlock = some oo from rfl)
                  exact Blk.ne_ hb hyw (by decide) e
                have hPb : P.b ≠ P.ga := Blk.ne_ HINr.out.blk hyw (by decide)
                clear hyw
                cases hax : st.1.act y with
                | true =>
                  rw [hax] at a1
                  have HE : Hid (onStep r t st y = st) := hide (by unfold onStep; rw [if_neg (fun h => by rw [hax] at h; cases h.2)])
                  clear hax
                  go_wp2
                  go_quiet (fail)
                  have hfq : Fr [] wr (wr.drewN nq) := (Fr.refl _ _).drewN _
                  clear q1 q2 c2 a1
                  generalize wr.drewN nq = wz at hfq ⊢
                  go_wp2
                  go_roundg (F.length - (q + 1))
                  case measure => rw [HMq.out]; omega
                  case rel => exact ⟨q + 1, st, by omega, by go_num, .inr ⟨HTM.out, HE.out.symm⟩, HINr.out.fr0 hfq, own_fr HOWNr.out hfq (fun _ _ => by simp), own_fr HRFr.out hfq (fun _ _ => by simp), own_fr HROr.out hfq (fun _ _ => by simp), hfmr.call hfq, rfl⟩
                | false =>
                  rw [hax] at a1
                  have HE : Hid (onStep r t st y = ({ st.1 with act := setF st.1.act y true }, st.2 ++ [⟨y, true, t⟩])) := hide (by unfold onStep; rw [if_pos ⟨HYF.out, hax⟩])
                  clear hax
                  go_wp2
                  go_quiet (fail)
                  have hfq : Fr [] wr (wr.drewN nq) := (Fr.refl _ _).drewN _
                  replace q2 := hfq.cell q2 (by simp)
                  replace c2 := hfq.cell c2 (by simp)
                  replace a1 := hfq.cell a1 (by simp)
                  have HINz := hide (HINr.out.fr0 hfq)
                  have HOWNz := hide (own_fr HOWNr.out hfq (fun _ _ => by simp))
                  have HRFz := hide (own_fr HRFr.out hfq (fun _ _ => by simp))
                  have HROz := hide (own_fr HROr.out hfq (fun _ _ => by simp))
                  have hfmz := hfmr.call hfq
                  clear q1 HINr HOWNr HRFr HROr hfmr hfq
                  generalize wr.drewN nq = wz at q2 c2 a1 HINz HOWNz HRFz HROz hfmz ⊢
                  have f3 := HINz.out.on.frozen y
                  have HIN6 := hide (HINz.out.act_ y true)
                  have HOWN6 := hide (own_fr HOWNz.out ((Fr.refl [P.ga] wz).set (p := ⟨P.ga, y, none⟩) (.inl (by simp)) (.bool true)) (fun y' hy hm => HINz.out.row_own HOWNz.out (by simp [RL.own]) y' hy (List.mem_singleton.1 hm)))
                  have HRF6 := hide (own_on HINz.out HRFz.out (.bool true) y)
                  have HRO6 := hide (own_on HINz.out HROz.out (.bool true) y)
                  have hfm6 := hfmz.set (p := ⟨P.ga, y, none⟩) (.inl (by simp [RL.own])) (.bool true)
                  clear HINz HOWNz HRFz HROz hfmz
                  go_wp2
                  go_region_held3 (fun w' => w'.cell? ⟨P.b, 2, none⟩ = some (.slice (some ⟨P.ga, 0, none⟩) l.length l.length) ∧ w'.cell? ⟨oo, ooo + j, none⟩ = some (.int .i64 (y : Int))) (first | exact ⟨c2, q2⟩ | exact ⟨Fr.cell ((Fr.refl [P.ga] wz).set (.inl (by simp)) _).drew c2 (by simpa using hPb), Fr.cell ((Fr.refl [P.ga] wz).set (.inl (by simp)) _).drew q2 (by simpa using hoga)⟩ | go_keep) (fail)
                  have q3 : (wz.setCell ⟨P.ga, y, none⟩ (.bool true)).drew.cell? ⟨oo, ooo + j, none⟩ = some (.int .i64 (y : Int)) := Fr.cell ((Fr.refl [P.ga] wz).set (.inl (by simp)) _).drew q2 (by simpa using hoga)
                  replace HIN6 := hide (HIN6.out.fr0 (Fr.refl [] _).drew)
                  replace HOWN6 := hide (own_fr HOWN6.out (Fr.refl [] _).drew (fun _ _ => by simp))
                  replace HRF6 := hide (own_fr HRF6.out (Fr.refl [] _).drew (fun _ _ => by simp))
                  replace HRO6 := hide (own_fr HRO6.out (Fr.refl [] _).drew (fun _ _ => by simp))
                  replace hfm6 := hfm6.call (Fr.refl [] _).drew
                  clear q2 c2 a1 f3 hoga hPb
                  generalize (wz.setCell ⟨P.ga, y, none⟩ (.bool true)).drew = w6 at q3 HIN6 HOWN6 HRF6 HRO6 hfm6 ⊢
                  have hz6 : w.heap.size ≤ w6.heap.size + 1 := by have := hfm6.size; omega
                  go_wp2_with (first
                    | (at_builtin
                       refine wpList_append_row _ rfl (.tmp 118) (.tmp 125) _ rfl w.heap.size 47 i0 (.agg #[.int .i64 0, .bool false, .int .u64 0]) 3 24 Try.underlying42 HI.out.1 HI.out.2.1 HI.out.2.2.1 HI.out.2.2.2 rfl (by omega) (.slice A8 st.2.length c8) st.2.length (pocs st.2) rfl
                         (own_fr HOWN6.out ((Fr.refl [] _).alloc _) (fun _ _ => by simp)) (some ⟨w6.heap.size, 0, none⟩) 1 1 [.int .i64 (y : Int), .bool true, .int .u64 (t : Int)] rfl rfl (row_three w6 _ _ _ _) (by intro u hu; simp at hu; rcases hu with rfl | rfl | rfl <;> rfl) (by simp only [maxLen]; omega) (by omega) (by simpa using hz6) ?_
                       intro v1 w7 hown7 hg7 hat7))
                  have hf67 : Fr (Value.slice A8 st.2.length c8).ownBlock.toList w6 w7 := ((Fr.refl _ w6).alloc _).trans (Fr.of_grown hg7)
                  have HOB : Hid (∀ y ∈ (Value.slice A8 st.2.length c8).ownBlock.toList, w.heap.size ≤ y) := hide (fun y hy => (own_block HOWN6.out (by simpa using hy)).1)
                  go_roundg (F.length - (q + 1))
                  case measure => rw [HMq.out]; omega
                  case rel =>
                    refine ⟨q + 1, ({ st.1 with act := setF st.1.act y true }, st.2 ++ [⟨y, true, t⟩]), by omega, by go_num, .inr ⟨HTM.out, HE.out.symm⟩, HIN6.out.fr hf67 (fun y hy => Nat.le_trans ht (HOB.out y hy)) hbb, ?_, own_keep HRF6.out HOWN6.out (by decide) hf67, own_keep HRO6.out HOWN6.out (by decide) hf67, hfm6.trans ⟨_, fun y hy => .inr (HOB.out y hy), hf67⟩, rfl⟩
                    rw [List.length_append, List.length_singleton, pocs_snoc]
                    exact hown7
              · have e1 : ((y : Int) == (x : Int)) = false := by simp; omega
                have e2 : (y == x) = false := by simp; omega
                have e3 : ¬ (y : Int) = (x : Int) := by omega
                have HG2 : Hid (GqSt r t p x F (q + 1) st) := hide (by
                  have hiff : x ∈ F.take (q + 1) ↔ x ∈ F.take q := by
                    rw [HTQ.out, List.mem_append, List.mem_singleton]
                    exact ⟨fun h => h.resolve_right (fun e => hyx e.symm), .inl⟩
                  rcases HGQ.out with h | h
                  · exact .inl ⟨fun hm => h.1 (hiff.1 hm), h.2⟩
                  · exact .inr ⟨hiff.2 h.1, h.2⟩)
                go_wp2
                go_quiet (fail)
                have hfq : Fr [] wr (wr.drewN nq) := (Fr.refl _ _).drewN _
                clear q1 q2 c2 a1
                generalize wr.drewN nq = wz at hfq ⊢
                go_wp2
                go_roundg (F.length - (q + 1))
                case measure => rw [HMq.out]; omega
                case rel => exact ⟨q + 1, st, by omega, by go_num, HG2.out, HINr.out.fr0 hfq, own_fr HOWNr.out hfq (fun _ _ => by simp), own_fr HRFr.out hfq (fun _ _ => by simp), own_fr HROr.out hfq (fun _ _ => by simp), hfmr.call hfq, rfl⟩
            · have hqi : ¬ (q : Int) < (F.length : Int) := by omega
              have HE : Hid (st = onStep r t p x) := hide (by
                have hg := HGQ.out
                unfold GqSt at hg
                rw [List.take_of_length_le (by omega)] at hg
                rcases hg with h | h
                · rw [h.2]
                  unfold onStep
                  rw [if_neg (fun hh => h.1 ((HNM.out x).2 ⟨hxn, hh.1⟩))]
                · exact h.2)
              have hos := HOS.out
              rw [← HE.out] at hos
              go_wp2
              go_roundg (M.ord.length - (j + 1))
              case measure => rw [HM.out]; omega
              case rel => exact ⟨j + 1, st, by omega, by go_num, by rw [HTK.out, HE.out], HINr.out, HOWNr.out, by omega, HRFr.out, HROr.out, hfmr, rfl⟩
        · have hjl : ¬ (j : Int) < (M.ord.length : Int) := by omega
          rw [List.take_of_length_le (by omega), ← HGM.out] at HPE
          have HPG := hide HPE.out.symm
          go_wp2
          go_ret2
          refine ⟨.slice A8 p.2.length c8, by rw [HD.out]; rfl, by rw [HD.out, HPG.out]; exact HINr.out, by rw [HD.out, HPG.out]; exact HOWNr.out, hfmr.four⟩
    · rw [decide_eq_false hp]
      have HR : Hid (getC M s k t = (s, [], 1)) := hide (by unfold getC; rw [if_neg (fun h => hp h.2)])
      clear hp hd
      go_wp2
      go_ret2
      exact ⟨_, by rw [HR.out]; rfl, by rw [HR.out]; exact HIN.out, by rw [HR.out]; exact own_nil _ _ _ _, Fr.refl _ _⟩
  · have HR : Hid (getC M s d t = (s, [], 1)) := hide (by unfold getC; rw [if_neg (fun h => hd h.1)])
    have hway : d < 0 ∨ (¬ d < 0 ∧ (l.length : Int) ≤ d) := by omega
    clear hd hMn
    rcases hway with h1 | ⟨h1, h2⟩
    all_goals
      go_enter Try.func43, Try.ntmps43
      go_wp2
      go_ret2
      exact ⟨_, by rw [HR.out]; rfl, by rw [HR.out]; exact HIN.out, by rw [HR.out]; exact own_nil _ _ _ _, Fr.refl _ _⟩
end
end Go.Proofs.Ytbnfdpemfmeldaa

