/- Walks: required, Get. -/
import Derived.Test.YtbnfdpemfmeldaaRpmW3Mg
import Derived.Test.YtbnfdpemfmeldaaMgRuntimeNew1
namespace Go.Proofs.Ytbnfdpemfmeldaa
open Go.RowKit

theorem bool_info28 : (Try.prog.info? 4).map (fun i => (i.zero, i.size, i.bytes)) = some (some (.bool false), 1, 1) := by kernel_rfl
section
variable {w : World} {P : ML} {M : RM} {s : RS}
/-- A row of marks. -/
def Mks (w : World) (g n : Nat) (r : Nat → Bool) : Prop := Blk w g 4 ((List.range n).map fun i => Value.bool (r i)).toArray
theorem Mks.get {g n : Nat} {r : Nat → Bool} (h : Mks w g n r) {i : Nat} (hi : i < n) : w.cell? ⟨g, i, none⟩ = some (.bool (r i)) := by
  rw [h.cell i]
  simp [hi]
theorem mks_set (r : Nat → Bool) {i n : Nat} (hi : i < n) (b : Bool) : ((List.range n).map fun i => Value.bool (r i)).toArray.setIfInBounds i (.bool b) = ((List.range n).map fun q => Value.bool (setF r i b q)).toArray := by
  rw [List.setIfInBounds_toArray]
  congr 1
  apply List.ext_getElem?
  intro t
  rw [List.getElem?_set, List.getElem?_map, List.getElem?_map]
  by_cases ht : t < n
  · rw [List.getElem?_range ht]
    by_cases e : i = t
    · subst e
      simp [setF, hi]
    · simp [e, setF, Ne.symm e]
  · rw [List.getElem?_eq_none (by simp; omega)]
    simp
    omega
theorem Mks.set {g n : Nat} {r : Nat → Bool} (h : Mks w g n r) {i : Nat} (hi : i < n) (b : Bool) : Mks (w.setCell ⟨g, i, none⟩ (.bool b)) g n (setF r i b) := by
  have h2 := Blk.set_ h i (.bool b)
  unfold Mks
  rw [← mks_set r hi b]
  exact h2
theorem Mks.frozen {g n : Nat} {r : Nat → Bool} (h : Mks w g n r) (i : Nat) : w.frozen? ⟨g, i, none⟩ = false := Blk.frozen h i
def ReqRet (w : World) (n : Nat) (r : Nat → Bool) (e : Ending) (w' : World) : Prop := ∃ g c, e = .returned (.slice (some ⟨g, 0, none⟩) n c) ∧ Mks w' g n r ∧ w.heap.size ≤ g ∧ Fr [] w w'
def RqRel (w1 : World) (g : Nat) (M : RM) (r0 : Nat → Bool) (m : Nat) (i : Value) (wr : World) : Prop :=
  ∃ q : Nat, q ≤ M.ord.length ∧ i = .int .i64 ((q : Int) - 1) ∧ Mks wr g M.n ((M.ord.drop q).reverse.foldl (reqStep M) r0) ∧ Fr [g] w1 wr ∧ m = q
def RqIn (w1 : World) (g : Nat) (M : RM) (l : List Nat) (r : Nat → Bool) (m : Nat) (i : Value) (wr : World) : Prop :=
  ∃ j : Nat, j ≤ l.length ∧ i = .int .i64 (j : Int) ∧ Mks wr g M.n ((l.take j).foldl (fun r x => setF r x true) r) ∧ Fr [g] w1 wr ∧ m = l.length - j
set_option maxHeartbeats 8000000 in
theorem required28_any (h : MgIn w P M s) (hM : MOk M) (ht : P.top ≤ w.heap.size) {d : Nat} (hd : d < M.n) :
    Calls Try.prog 47 #[.pointer (some ⟨P.b, 0, none⟩), .int .i64 (d : Int)] w (ReqRet w M.n (reqM M d)) := by
  have hn := hM.n
  have hol := hM.ol
  have hol64 : M.ord.length ≤ 64 := by omega
  clear hol
  have HIN := hide h
  have HMO := hide hM
  have c0 : w.cell? ⟨P.b, 0, none⟩ = some (.slice (some ⟨P.g, 0, none⟩) M.n P.cg) := h.blk.cell 0
  have hmk := run_make_one (P := Try.prog) 52 4 (.bool false) 1 Try.underlying52 bool_info28 rfl M.n M.n (Nat.le_refl _) (by omega) (by omega) w
  have hdi : (d : Int) < (M.n : Int) := by omega
  have hb0 : Mks (w.alloc (.cells (Array.replicate M.n (.bool false)) 4)) w.heap.size M.n (fun _ => false) := by
    have := Blk.new w 4 (Array.replicate M.n (.bool false))
    unfold Mks
    rw [show ((List.range M.n).map fun _ => Value.bool false).toArray = Array.replicate M.n (.bool false) by
      apply Array.ext
      · simp
      · intro i h1 h2; simp]
    exact this
  have hcd := hb0.get hd
  have hfd := hb0.frozen d
  have HB1 : Hid (Mks (w.alloc (.cells ((Array.replicate M.n (.bool false)).setIfInBounds d (.bool true)) 4)) w.heap.size M.n (setF (fun _ => false) d true)) := hide (by
    have h1 := Blk.new w 4 ((Array.replicate M.n (.bool false)).setIfInBounds d (.bool true))
    unfold Mks
    rw [← mks_set (fun _ => false) hd true, show ((List.range M.n).map fun _ => Value.bool false).toArray = Array.replicate M.n (.bool false) by
      apply Array.ext
      · simp
      · intro i h1 h2; simp]
    exact h1)
  have hfw1 : Fr [] w (w.alloc (.cells ((Array.replicate M.n (.bool false)).setIfInBounds d (.bool true)) 4)) := (Fr.refl _ _).alloc _
  have HIN1 := hide (HIN.out.fr0 hfw1)
  clear h hM hb0
  go_enter Try.func47, Try.ntmps47
  go_upto_region 3 with (fail)
  generalize w.alloc (.cells ((Array.replicate M.n (.bool false)).setIfInBounds d (.bool true)) 4) = w1 at HB1 hfw1 HIN1 ⊢
  obtain ⟨g, hg⟩ : ∃ g, g = w.heap.size := ⟨_, rfl⟩
  rw [← hg] at HB1 ⊢
  have htg : P.top ≤ g := by omega
  have HG := hide hg
  clear hg c0 hmk hcd hfd HIN
  have HRM : Hid (reqM M d = M.ord.reverse.foldl (reqStep M) (setF (fun _ => false) d true)) := hide rfl
  generalize setF (fun _ => false) d true = r0 at HB1 HRM
  have c1 : w1.cell? ⟨P.b, 1, none⟩ = some (.slice P.Ao M.ord.length P.co) := HIN1.out.blk.cell 1
  go_wp2
  clear c1
  go_loopg [6] M.ord.length (fun m i wr => RqRel w1 g M r0 m i wr)
  case atStart => exact ⟨M.ord.length, by omega, by rfl, by rw [List.drop_of_length_le (by omega)]; exact HB1.out, Fr.refl _ _, rfl⟩
  case round =>
    obtain ⟨q, hq, rfl, hmk, hfr, hmm⟩ := hrel
    have HM := hide hmm
    have HK := hide hmk
    have HINr := hide (HIN1.out.fr hfr (fun i hi => by rw [List.mem_singleton.1 hi]; exact htg))
    clear hmm hmk
    by_cases hlt : 0 < q
    · obtain ⟨x, hx⟩ : ∃ x, M.ord[q - 1]? = some x := ⟨_, List.getElem?_eq_getElem (by omega)⟩
      obtain ⟨r, hr⟩ : ∃ r, r = q - 1 := ⟨_, rfl⟩
      rw [← hr] at hx
      have hxn : x < M.n := HMO.out.ord x (List.mem_of_getElem? hx)
      obtain ⟨oa, oo, eA, c1⟩ := HINr.out.ord.1.at_ (i := r) (u := nv x) (by rw [List.getElem?_map, hx]; rfl)
      have cA : wr.cell? ⟨P.b, 1, none⟩ = some (.slice (some ⟨oa, oo, none⟩) M.ord.length P.co) := by rw [← eA]; exact HINr.out.blk.cell 1
      have hqr : (q : Int) - 1 = (r : Int) := by omega
      rw [hqr]
      have hrl : (r : Int) < (M.ord.length : Int) := by omega
      have hr0 : (0 : Int) ≤ (r : Int) := by omega
      have hxi : (x : Int) < (M.n : Int) := by omega
      have HTS : Hid ((M.ord.drop r).reverse.foldl (reqStep M) r0 = reqStep M ((M.ord.drop q).reverse.foldl (reqStep M) r0) x) := hide (by
        obtain ⟨h1, h2⟩ := List.getElem?_eq_some_iff.1 hx
        rw [List.drop_eq_getElem_cons h1, h2, show r + 1 = q by omega, List.reverse_cons, List.foldl_append]
        rfl)
      have HRR := hide hr
      generalize (M.ord.drop q).reverse.foldl (reqStep M) r0 = rq at HK HTS
      have cx := HK.out.get hxn
      clear hx hqr hr eA
      cases hrx : rq x with
      | false =>
        rw [hrx] at cx
        have HE : Hid (reqStep M rq x = rq) := hide (by unfold reqStep; rw [if_neg (by rw [hrx]; decide)])
        clear hrx
        go_wp2
        go_roundg r
        case measure => rw [HM.out, HRR.out]; omega
        case rel => exact ⟨r, by omega, by go_num, by rw [HTS.out, HE.out]; exact HK.out, hfr, rfl⟩
      | true =>
        rw [hrx] at cx
        have HE : Hid (reqStep M rq x = (supL M.L x).foldl (fun r x => setF r x true) rq) := hide (by unfold reqStep; rw [if_pos hrx])
        obtain ⟨As, cs, es, hrs, hls⟩ := HINr.out.sup x hxn
        have c0 : wr.cell? ⟨P.b, 0, none⟩ = some (.slice (some ⟨P.g, 0, none⟩) M.n P.cg) := HINr.out.blk.cell 0
        have d0 : wr.cell? ⟨P.g, x * 6, none⟩ = some (.slice As (supL M.L x).length cs) := by rw [← es]; exact HINr.out.cell (j := 0) hxn (by omega)
        have HSL : Hid (∀ y ∈ supL M.L x, y < M.n) := hide (fun y hy => (HMO.out.L _ (mem_supL.1 hy)).2)
        have hsl : (supL M.L x).length ≤ 1024 := Nat.le_trans (supL_len _ _) HMO.out.len
        have HROW := hide hrs
        have HLOW : Hid (Off As [g]) := hide (fun ad e hm => by
          have := (hls ad e).2.2
          have := List.mem_singleton.1 hm
          omega)
        obtain ⟨wq, hwq⟩ : ∃ wq, wq = wr := ⟨_, rfl⟩
        subst hwq
        generalize supL M.L x = l0 at HE HSL hsl HROW d0
        clear hrx es hrs hls
        go_wp2
        clear d0 c0 cA c1 cx
        go_loopg [49] l0.length (fun m i wr => RqIn wq g M l0 rq m i wr)
        case atStart => exact ⟨0, by omega, rfl, HK.out, Fr.refl _ _, rfl⟩
        case round =>
          obtain ⟨j, hj, rfl, hmk, hfr2, hmm⟩ := hrel
          have HM2 := hide hmm
          have HK2 := hide hmk
          clear hmm hmk
          by_cases hlt2 : j < l0.length
          · obtain ⟨y, hy⟩ : ∃ y, l0[j]? = some y := ⟨_, List.getElem?_eq_getElem hlt2⟩
            have hyn : y < M.n := HSL.out y (List.mem_of_getElem? hy)
            obtain ⟨ob, oo', rfl, q1⟩ := (HROW.out.fr hfr2 HLOW.out).at_ (i := j) (u := nv y) (by rw [List.getElem?_map, hy]; rfl)
            have HTK : Hid ((l0.take (j + 1)).foldl (fun r x => setF r x true) rq = setF ((l0.take j).foldl (fun r x => setF r x true) rq) y true) := hide (by
              obtain ⟨h1, h2⟩ := List.getElem?_eq_some_iff.1 hy
              rw [List.take_succ_eq_append_getElem h1, h2, List.foldl_append]
              rfl)
            have hjl : (j : Int) < (l0.length : Int) := by omega
            have hyi : (y : Int) < (M.n : Int) := by omega
            generalize (l0.take j).foldl (fun r x => setF r x true) rq = rj at HK2 HTK
            have cy := HK2.out.get hyn
            have fy := HK2.out.frozen y
            have HK3 := hide (HK2.out.set hyn true)
            clear hy
            go_wp2
            go_roundg (l0.length - (j + 1))
            case measure => rw [HM2.out]; omega
            case rel => exact ⟨j + 1, by omega, by go_num, by rw [HTK.out]; exact HK3.out, hfr2.set (.inl (by simp)) _, rfl⟩
          · have hjl : ¬ (j : Int) < (l0.length : Int) := by omega
            rw [List.take_of_length_le (by omega)] at HK2
            go_wp2
            go_roundg r
            case measure => rw [HM.out, HRR.out]; omega
            case rel => exact ⟨r, by omega, by go_num, by rw [HTS.out, HE.out]; exact HK2.out, hfr.trans hfr2, rfl⟩
    · obtain rfl : q = 0 := by omega
      rw [List.drop_zero] at HK
      go_wp2
      go_ret
      exact ⟨g, _, rfl, by rw [HRM.out]; exact HK.out, by rw [HG.out]; exact Nat.le_refl _, hfw1.step hfr (fun i hi => .inr (by rw [List.mem_singleton.1 hi, HG.out]; exact Nat.le_refl _))⟩
end
end Go.Proofs.Ytbnfdpemfmeldaa

