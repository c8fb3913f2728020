/- Walks: depgraph.sequence. -/
import Derived.Test.YtdocdgghphhdpaaMgDeviceTree10
import Derived.Test.YtdocdgghphhdpaaMgDeviceTree0
import Derived.Deep.Cut
import Derived.Deep.CutBlock
namespace Go.Proofs.Ytdocdgghphhdpaa
open Go.RowKit

def CntRel (w1 : World) (mg n : Nat) (l : List (Int × Int)) (m : Nat) (i : Value) (wr : World) : Prop :=
  ∃ k : Nat, k ≤ l.length ∧ i = .int .i64 k ∧ FA wr mg 3 iv n (fun v => (lacks (toNs (l.take k)) [] v : Int)) ∧ Fr [] w1 wr ∧ m = l.length - k
def SqRel (w1 : World) (mg n : Nat) (L : List (Nat × Nat)) (m : Nat) (v : Value) (wr : World) : Prop :=
  ∃ o : List Nat, SeqOk n L o ∧ FA wr mg 3 iv n (missM L o) ∧ wr.ownsRow w1.heap.size 3 1 v o.length (o.map nv) ∧ (∀ y, v.ownBlock = some y → y ≠ mg) ∧ Fr [] w1 wr ∧ greedyF n L (n - o.length) o = greedy n L ∧ m = n - o.length
def DecRel (w1 : World) (mg n : Nat) (L : List (Nat × Nat)) (o : List Nat) (q : Nat) (C : List Nat) (v : Value) (m : Nat) (i : Value) (wr : World) : Prop :=
  ∃ k : Nat, k ≤ C.length ∧ i = .int .i64 k ∧ FA wr mg 3 iv n (fun u => (if u = q then -1 else missM L o u) - ((C.take k).count u : Int)) ∧
    wr.ownsRow w1.heap.size 3 1 v (o.length + 1) ((o ++ [q]).map nv) ∧ Fr [] w1 wr ∧ m = C.length - k
def SeqRet (w : World) (n : Nat) (l : List (Int × Int)) (e : Ending) (w' : World) : Prop := OwnRet w 3 1 (greedy n (toNs l)).length ((greedy n (toNs l)).map nv) e w'

set_option maxHeartbeats 4000000 in
theorem sequence_any (n : Nat) (A : Option Addr) (cp : Nat) (l : List (Int × Int)) (w : World) (hr : Row w A (pcs l)) (hok : LinksOk n l) :
    Calls Try.prog 78 #[.int .i64 n, .slice A l.length cp] w (SeqRet w n l) := by
  obtain ⟨i0, hi0, hz0, hz1, hz2⟩ := info_parts int_info1
  have HI := hide (And.intro hi0 (And.intro hz0 (And.intro hz1 hz2)))
  have HR := hide hr
  have hl1 : l.length ≤ 1024 := hok.2.2.1
  have hn1 : n ≤ 128 := by have := hok.2.1; omega
  have HLK := hide hok
  have HOK := hide hok.2.2.2
  have hmk := make_ints n n (Nat.le_refl _) (by omega)
  have hmk0 := make_ints0 n (by omega)
  clear hr hok hi0 hz0 hz1 hz2
  go_enter Try.func78, Try.ntmps78
  go_wp2_with fail
  refine (neighbors_any true n A cp l w HR.out HLK.out).mono ?_
  rintro e w1 ⟨g, rfl, hls, hf1⟩
  have hnew := FA.new w1 3 iv 0 n
  have hfr0 : Fr [] w1 (w1.alloc (.cells (Array.replicate n (.int .i64 0)) 3)) := (Fr.refl _ _).alloc _
  have HLS := hide hls
  clear hls
  go_wp2
  generalize (w1.alloc (.cells (Array.replicate n (.int .i64 0)) 3)) = w2 at hnew hfr0 ⊢
  obtain ⟨mg, hmg⟩ : ∃ mg, mg = w1.heap.size := ⟨_, rfl⟩
  have hmw : w1.heap.size ≤ mg := by omega
  rw [← hmg] at hnew ⊢
  clear hmg
  go_loopg [20] l.length (fun m i wr => CntRel w1 mg n l m i wr)
  case atStart => exact ⟨0, by omega, rfl, hnew.congr (fun v _ => by simp [toNs, lacks]), hfr0, rfl⟩
  case round =>
    clear hnew hfr0
    obtain ⟨k, hk, rfl, hfa, hfr, hmm⟩ := hrel
    have HM := hide hmm
    have HFA := hide hfa
    clear hmm hfa
    by_cases hlt : k < l.length
    · obtain ⟨p, hp⟩ : ∃ p, l[k]? = some p := ⟨_, List.getElem?_eq_getElem hlt⟩
      obtain ⟨ob, oo, rfl, c1, c2⟩ := (HR.out.fr0 (hf1.call hfr)).link hp
      have hpo := HOK.out p (List.mem_of_getElem? hp)
      have HP := hide (take_succ_some hp)
      clear hp
      have hkl : (k : Int) < (l.length : Int) := by omega
      obtain ⟨c, s⟩ := p
      simp only at c1 c2
      unfold LinkOk at hpo
      simp only at hpo
      obtain ⟨q1, q2, q3, q4⟩ := hpo
      obtain ⟨c, rfl⟩ := Int.eq_ofNat_of_zero_le q1
      obtain ⟨s, rfl⟩ := Int.eq_ofNat_of_zero_le q3
      obtain ⟨L, hL⟩ : ∃ L, L = toNs (l.take k) := ⟨_, rfl⟩
      have hLk : L.length ≤ 1024 := by rw [hL]; simp [toNs]; omega
      have HP2 : Hid (∀ v, lacks (toNs (l.take (k + 1))) [] v = if v = c then lacks L [] v + 1 else lacks L [] v) := hide (fun v => by
        rw [HP.out, hL]
        simp only [toNs, List.map_append, List.map_cons, List.map_nil]
        rw [lacks_link]
        simp [toN])
      rw [← hL] at HFA
      clear hL HP
      have hfa1 := HFA.out.fr0 ((Fr.refl [] _).alloc (.cells #[.int .i64 (c : Int), .int .i64 (s : Int)] 76))
      have hc1 := hfa1.cell (i := c) (by omega)
      have hc2 := hfa1.frozen c
      have hlk := lacks_le L [] c
      have hlt1 := hfa1.lt
      generalize hx : lacks L [] c = x at hc1 hlk
      have HX := hide hx
      have HFA1 := hide hfa1
      clear hfa1 hx
      go_wp2
      go_roundg (l.length - (k + 1))
      case measure => rw [HM.out]; omega
      case rel =>
        refine ⟨k + 1, by omega, by go_num, ?_, (hfr.alloc _).set (.inr hmw) _, rfl⟩
        refine (HFA1.out.set_ c ((x : Int) + 1)).congr (fun v _ => ?_)
        rw [HP2.out v]
        by_cases e : v = c
        · subst e
          simp [HX.out]
        · simp [e]
    · have hkl : ¬ (k : Int) < (l.length : Int) := by omega
      have hfa2 := HFA.out
      rw [List.take_of_length_le (by omega)] at hfa2
      obtain ⟨L, hL⟩ : ∃ L, L = toNs l := ⟨_, rfl⟩
      have hfa3 : FA wr mg 3 iv n (missM L []) := hfa2.congr (fun v _ => by rw [missM_nil, hL])
      have hown := own_new (base := w1.heap.size) wr (e := 3) (size := 1) (n := 0) (c := n) (cs := Array.replicate n (.int .i64 0)) hfr.size (by simp) (Nat.zero_le _) (by simp [maxLen]; omega)
      have hne : ∀ y, (Value.slice (some ⟨wr.heap.size, 0, none⟩) 0 n).ownBlock = some y → y ≠ mg := fun y hy => by
        have h1 : wr.heap.size = y := by simpa [Value.ownBlock] using hy
        have h2 := hfa3.lt
        omega
      have HNE := hide hne
      have HFA3 := hide (hfa3.fr0 ((Fr.refl [] wr).alloc (.cells (Array.replicate n (.int .i64 0)) 3)))
      have HOWN := hide hown
      have hfr2 := hfr.alloc (.cells (Array.replicate n (.int .i64 0)) 3)
      have HL := hide hL
      clear hfa2 hfa3 hown hne hL HFA hfr
      go_wp2
      generalize (wr.alloc (.cells (Array.replicate n (.int .i64 0)) 3)) = w3 at HFA3 HOWN hfr2 ⊢
      go_loopg [9] n (fun m v wr => SqRel w1 mg n L m v wr)
      case atStart => exact ⟨[], SeqOk.nil _ _, HFA3.out, by simpa using HOWN.out, HNE.out, hfr2, by simp [greedy], by simp⟩
      case round =>
        clear HFA3 HOWN HNE hfr2 HM hmk hmk0
        obtain ⟨o, hso, hfa, hown, hne, hfr, hgr, hmm⟩ := hrel
        obtain ⟨A9, c9, rfl, -, -, -⟩ := own_slice hown
        have hol := hso.length_le
        have HSO := hide hso
        have HM := hide hmm
        have HGR := hide hgr
        have HFA := hide hfa
        have HOWN := hide hown
        have HNE := hide hne
        clear hso hmm hgr hfa hown hne
        go_wp2_with fail
        have hlen : ((List.range n).map (missM L o)).length = n := by simp
        have hidx := indexInts_any (some ⟨mg, 0, none⟩) n ((List.range n).map (missM L o)) 0 wr (by simpa using HFA.out.row) (by rw [hlen]; omega)
        rw [hlen] at hidx
        refine hidx.mono ?_
        clear hidx hlen
        rintro e w4 ⟨rfl, rfl⟩
        cases hpk : pick n L o with
        | none =>
          have hi : idxI ((List.range n).map (missM L o)) 0 = -1 := idxI_none (fun h => by
            obtain ⟨v, hv, e⟩ := List.mem_map.1 h
            exact pick_none.1 hpk v (List.mem_range.1 hv) (missM_zero.1 e))
          rw [hi]
          have HPK := hide hpk
          clear hi hpk
          go_wp2
          go_ret
          have hge : greedy n L = o := by rw [← HGR.out, greedyF_stop HPK.out]
          refine ⟨_, rfl, ?_, hf1.call hfr⟩
          rw [← HL.out, hge]
          exact own_base HOWN.out hf1.size
        | some q =>
          obtain ⟨hqn, hqr, hqm⟩ := pick_some.1 hpk
          have hi : idxI ((List.range n).map (missM L o)) 0 = (q : Int) := idxI_some (by simp [hqn]; exact missM_zero.2 hqr) (fun h => by
            rw [List.mem_iff_getElem?] at h
            obtain ⟨j, hj⟩ := h
            rw [List.getElem?_take] at hj
            split at hj
            · rename_i hjq
              rw [List.getElem?_map, List.getElem?_range (by omega)] at hj
              injection hj with hj
              exact hqm j hjq (missM_zero.1 hj)
            · cases hj)
          rw [hi]
          clear hi
          have hc1 := HFA.out.cell hqn
          have hc2 := HFA.out.frozen q
          have hc3 := HFA.out.lt
          generalize missM L o q = x at hc1
          have HPK := hide hpk
          have HQR := hide hqr
          have hown1 := own_fr HOWN.out ((Fr.refl [mg] wr).set (p := ⟨mg, q, none⟩) (.inl (by simp)) (.int .i64 (-1))) (fun y hy => by simpa using HNE.out y hy)
          have hfa1 := HFA.out.set_ q (-1)
          have hfr1 := hfr.set (p := ⟨mg, q, none⟩) (.inr hmw) (.int .i64 (-1))
          clear hpk hqr hqm
          go_upto_region 13 with fail
          generalize (wr.setCell ⟨mg, q, none⟩ (.int .i64 (-1))) = w5 at hown1 hfa1 hfr1 ⊢
          have HOWN1 := hide hown1
          have HFA1 := hide hfa1
          clear hc1 hc2 hc3 hown1 hfa1 HFA HOWN hfr
          have hsz : w1.heap.size ≤ w5.heap.size + 1 := by have := hfr1.size; omega
          go_upto_region 14 with (first
            | (at_builtin
               refine wpList_append_row _ rfl (.tmp 42) (.tmp 44) _ rfl w1.heap.size 3 i0 (.int .i64 0) 1 8 Try.underlying34 HI.out.1 HI.out.2.1 HI.out.2.2.1 HI.out.2.2.2 rfl (by omega) (.slice A9 o.length c9) o.length (o.map nv) rfl
                 (own_fr HOWN1.out ((Fr.refl [] _).alloc _) (fun _ _ => by simp)) (some ⟨w5.heap.size, 0, none⟩) 1 1 [.int .i64 (q : Int)] rfl rfl (row_one w5 _ _) (by intro u hu; simp at hu; subst hu; rfl) (by simp only [maxLen]; omega) (by omega) (by simpa using hsz) ?_
               intro v1 w6 hown6 hg6 hat6))
          have hfr6 : Fr [] w1 w6 := (hfr1.alloc _).grown hg6 (fun y hy => .inr (own_block HOWN1.out hy).1)
          have hmlt := HFA1.out.lt
          have hfa6 : FA w6 mg 3 iv n (fun j => if j = q then -1 else missM L o j) := (HFA1.out.fr0 ((Fr.refl [] w5).alloc _)).fr (Fr.of_grown hg6) (fun hm => by
            cases hvb : (Value.slice A9 o.length c9).ownBlock with
            | none => rw [hvb] at hm; cases hm
            | some y => rw [hvb] at hm; exact HNE.out y hvb (List.mem_singleton.1 hm).symm)
          have hne6 : ∀ y, v1.ownBlock = some y → y ≠ mg := fun y hy => by
            rcases hat6 with h | h
            · exact HNE.out y (h ▸ hy)
            · rw [h] at hy
              injection hy with hy
              simp at hy
              omega
          obtain ⟨A10, c10, rfl, -, -, -⟩ := own_slice hown6
          have HFA6 := hide hfa6
          have HNE6 := hide hne6
          have HOWN6 := hide hown6
          clear hg6 hat6 hfa6 hne6 hown6 hfr1 HFA1 HOWN1 hsz HNE
          obtain ⟨v, hcv1, hfz, howc, hvb, -⟩ := HLS.out.at_ (nbs_get true (toNs l) hqn)
          have hcv := Fr.cell hfr6 hcv1 (by simp)
          have hCm : ∀ u, u ∈ nb true (toNs l) q → u < n := fun u hu => by
            have hp : (u, q) ∈ toNs l := by simpa using (nb_mem (cons := true)).1 hu
            obtain ⟨p, hp1, hp2⟩ := List.mem_map.1 hp
            have := HOK.out p hp1
            unfold LinkOk at this
            have e1 : p.1.toNat = u := congrArg Prod.fst hp2
            omega
          have hCl := nb_length_le true (toNs l) q
          rw [← HL.out] at hCm hCl howc
          generalize hC : nb true L q = C at hCm hCl howc
          have HC := hide hC
          have HCM := hide hCm
          have hCl2 : C.length ≤ 1024 := by
            have : L.length = l.length := by rw [HL.out]; simp [toNs]
            omega
          obtain ⟨AC, cc, rfl, -, hrc, -⟩ := own_slice howc
          have HRC := hide hrc
          clear hC hCm hCl howc hrc hvb hcv1 hfz
          go_wp2
          go_loopg [51] C.length (fun m i wr => DecRel w1 mg n L o q C (.slice A10 (o.length + 1) c10) m i wr)
          case atStart => exact ⟨0, by omega, rfl, HFA6.out.congr (fun u _ => by simp), by rw [List.map_append]; exact HOWN6.out, hfr6, rfl⟩
          case round =>
            clear HFA6 HOWN6 hfr6 hcv hmlt
            obtain ⟨j, hj, rfl, hfa, hown, hfr, hmm⟩ := hrel
            have HM2 := hide hmm
            have HFA := hide hfa
            have HOWN := hide hown
            clear hmm hfa hown
            by_cases hlt : j < C.length
            · obtain ⟨u, hu⟩ : ∃ u, C[j]? = some u := ⟨_, List.getElem?_eq_getElem hlt⟩
              obtain ⟨ob, oo, rfl, c1⟩ := (HRC.out.fr0 hfr).at_ (i := j) (u := nv u) (by simp [hu])
              have hun := HCM.out u (List.mem_of_getElem? hu)
              have hjl : (j : Int) < (C.length : Int) := by omega
              have hc1 := HFA.out.cell hun
              have hc2 := HFA.out.frozen u
              have hb1 := missM_lo L o u
              have hb2 : (C.take j).count u ≤ C.length := Nat.le_trans (List.count_le_length ..) (List.length_take_le' _ _)
              have hLl : L.length = l.length := by rw [HL.out]; simp [toNs]
              generalize hx : ((if u = q then -1 else missM L o u) - ((C.take j).count u : Int)) = x at hc1
              have hx1 : -5000 ≤ x := by rw [← hx]; split <;> omega
              have hx2 : x ≤ 5000 := by rw [← hx]; split <;> omega
              have HX := hide hx
              have HU := hide (take_succ_some hu)
              clear hx hu hb1 hb2 hLl
              go_wp2
              go_roundg (C.length - (j + 1))
              case measure => rw [HM2.out]; omega
              case rel =>
                refine ⟨j + 1, by omega, by go_num, ?_, ?_, hfr.set (.inr hmw) _, rfl⟩
                · refine (HFA.out.set_ u (x - 1)).congr (fun t _ => ?_)
                  rw [HU.out, List.count_append, List.count_singleton]
                  by_cases e : t = u
                  · subst e
                    rw [if_pos rfl, ← HX.out]
                    simp
                    omega
                  · rw [if_neg e]
                    have e' : ¬ u = t := fun h => e h.symm
                    simp [e']
                · exact own_fr HOWN.out ((Fr.refl [mg] _).set (.inl (by simp)) _) (fun y hy => by simpa using HNE6.out y hy)
            · have hjl : ¬ (j : Int) < (C.length : Int) := by omega
              have hfin : FA wr mg 3 iv n (missM L (o ++ [q])) := HFA.out.congr (fun u _ => by
                rw [List.take_of_length_le (by omega), missM_snoc HSO.out HQR.out, HC.out])
              have HFIN := hide hfin
              have hol2 := (HSO.out.snoc hqn HQR.out).length_le
              clear hfin HFA
              go_wp2
              go_roundg (n - (o.length + 1))
              case measure =>
                rw [HM.out]
                simp at hol2
                omega
              case rel =>
                refine ⟨o ++ [q], HSO.out.snoc hqn HQR.out, HFIN.out, by simpa using HOWN.out, HNE6.out, hfr, ?_, by simp⟩
                rw [← HGR.out, greedyF_step HPK.out (by simp at hol2; omega)]
                simp
                rfl
end Go.Proofs.Ytdocdgghphhdpaa

