/- Walks over the reference of chapter 28: expire. -/
import Derived.Test.YtbnfdpemfmeldaaRfW2Mg
import Derived.Test.YtbnfdpemfmeldaaRpmW2Mg
import Derived.Deep.RegionHeld3
namespace Go.Proofs.Ytbnfdpemfmeldaa
open Go.RowKit

theorem supL_snoc (L : List (Nat × Nat)) (a b i : Nat) : supL (L ++ [(a, b)]) i = if a = i then supL L i ++ [b] else supL L i := by
  unfold supL
  rw [List.filter_append]
  by_cases h : a = i <;> simp [h]
section
variable {w : World} {P : RL} {l : List ID} {s : RS}
def RxRet (w : World) (P : RL) (M : RM) (l : List ID) (base : Nat) (R : RS × List POp) (e : Ending) (w' : World) : Prop :=
  ∃ v, e = .returned v ∧ RgIn w' P l R.1 ∧ SOk M R.1 ∧ w'.ownsRow base 47 3 v R.2.length (pocs R.2) ∧ FrR P base w w'
def RxRel (w : World) (P : RL) (M : RM) (l : List ID) (lim base : Nat) (B : Nat) (R : RS × List POp) (m : Nat) (v : Value) (wr : World) : Prop :=
  ∃ s' ops, RgIn wr P l s' ∧ SOk M s' ∧ wr.ownsRow base 47 3 v ops.length (pocs ops) ∧ expK M lim m s' ops = R ∧ nAct M s' < m ∧ ops.length + nAct M s' ≤ B ∧ FrR P base w wr
def RxIn (w : World) (P : RL) (M : RM) (l : List ID) (base : Nat) (d t : Nat) (s0 : RS) (v : Value) (n : Nat) (xs : List Value) (m : Nat) (i : Value) (wr : World) : Prop :=
  ∃ j : Nat, j ≤ (idLinks 0 l).length ∧ i = .int .i64 (j : Int) ∧ RgIn wr P l ((supL ((toNs (idLinks 0 l)).take j) d).foldl (markS M t) s0) ∧ SOk M ((supL ((toNs (idLinks 0 l)).take j) d).foldl (markS M t) s0) ∧ wr.ownsRow base 47 3 v n xs ∧ FrR P base w wr ∧ m = (idLinks 0 l).length - j
theorem RgIn.row_own (h : RgIn w P l s) {base : Nat} {v : Value} {n : Nat} {xs : List Value} (ho : w.ownsRow base 47 3 v n xs) {p : Nat} (hp : p ∈ P.own) (y : Nat) (hy : v.ownBlock = some y) : y ≠ p := by
  obtain ⟨_, _, cs, hb⟩ := own_block ho hy
  simp [RL.own] at hp
  rcases hp with rfl | rfl | rfl | rfl
  · exact Blk.ne_ hb h.blk (by decide)
  · exact Blk.ne_ hb h.on (by decide)
  · exact Blk.ne_ hb h.us (by decide)
  · exact Blk.ne_ hb h.sn (by decide)
set_option maxHeartbeats 8000000 in
set_option maxRecDepth 100000 in
theorem rexpire28_any (h : RgIn w P l s) (hB : basicM (l.length : Int) (idLinks 0 l) = 0) {M : RM} (hm : M = newRM l) (hM : MOk M) (hs : SOk M s) {lim base : Nat} (hl : lim ≤ 1152921504606846976) (hbt : P.top ≤ base) (hbb : P.bot ≤ P.top) (hbs : base ≤ w.heap.size) {A : Option Addr} {cp : Nat} {ops : List POp} (ho : w.ownsRow base 47 3 (.slice A ops.length cp) ops.length (pocs ops)) (hB1 : ops.length ≤ 100) :
    Calls Try.prog 53 #[.pointer (some ⟨P.b, 0, none⟩), .slice A ops.length cp, uv lim] w (RxRet w P M l base (expM M lim s ops)) := by
  obtain ⟨i0, hi0, hi1⟩ := info_parts28 pop_info
  have HI : Hid (Try.prog.info? 47 = some i0 ∧ i0.zero = some (.agg #[.int .i64 0, .bool false, .int .u64 0]) ∧ i0.size = 3 ∧ i0.bytes = 24) := hide (by
    simp at hi1
    exact ⟨hi0, hi1⟩)
  have hn := hM.n
  have HNL := hide (show M.n = l.length by rw [hm]; rfl)
  have HML := hide (show M.L = toNs (idLinks 0 l) by rw [hm]; rfl)
  have HFST : Hid (∀ (wx : World) (sx : RS), RgIn wx P l sx → SOk M sx → Calls Try.prog 44 #[.pointer (some ⟨P.b, 0, none⟩)] wx fun e w' => e = .returned (.int .i64 (optI28 (fstM M sx))) ∧ ∃ q, w' = wx.drewN q) := hide (fun wx sx h1 h2 => by
    subst hm
    exact rfirst28_any h1 hB hM h2)
  have HDLY : Hid (∀ (wx : World) (sx : RS), RgIn wx P l sx → ∀ i, i < l.length → ∃ ob oo, P.Ad = some ⟨ob, oo, none⟩ ∧ wx.cell? ⟨ob, oo + i * 3 + 2, none⟩ = some (.int .u64 (M.dl i : Int))) := hide (fun wx sx h1 i hi => by
    subst hm
    exact h1.delay hi)
  have HIDL : Hid (∀ (wx : World) (sx : RS) (i : Nat), RgIn wx P l sx → i < l.length → Calls Try.prog 54 #[.pointer (some ⟨P.b, 0, none⟩), .int .i64 (i : Int)] wx fun e w' => e = .returned (.bool (idl M sx i)) ∧ ∃ q, w' = wx.drewN q) := hide (fun wx sx i h1 hi => by
    subst hm
    exact ridle28_any h1 hB hi)
  have HM0 := hide hm
  have hl1 : (idLinks 0 l).length ≤ 1024 := (basicM_zero hB).1.2.2.1
  have hTL : (toNs (idLinks 0 l)).length = (idLinks 0 l).length := by simp [toNs]
  have HTL := hide hTL
  have HMO := hide hM
  have HBA := hide hB
  have HLN := hide (fun (k : Nat) (p : Int × Int) (hp : (idLinks 0 l)[k]? = some p) => link_nat hB hp)
  have HST : Hid (RxRel w P M l lim base 200 (expM M lim s ops) (M.n + 1) (.slice A ops.length cp) w) := hide ⟨s, ops, h, hs, ho, rfl, by have := nAct_le M s; omega, by have := nAct_le M s; omega, FrR.refl _ _ _⟩
  generalize expM M lim s ops = R at HST ⊢
  clear h hs ho hi0 hi1 hM hB hTL hm
  go_enter Try.func53, Try.ntmps53
  go_wp2
  go_loopg [1] (M.n + 1) (fun m v wr => RxRel w P M l lim base 200 R m v wr)
  case atStart => exact HST.out
  case round =>
    clear HST
    obtain ⟨s', ops', hin, hso, hown, hexp, hna, hB2, hfm⟩ := hrel
    obtain ⟨A2, c2, rfl, -, -, -⟩ := own_slice hown
    have HIN := hide hin
    have HSO := hide hso
    have HOWN := hide hown
    have HEXP := hide hexp
    clear hin hso hown hexp
    obtain ⟨q, hq⟩ : ∃ q, gk = q + 1 := ⟨gk - 1, by omega⟩
    have HQ := hide hq
    clear hq
    go_wp2_with fail
    refine (HFST.out _ _ HIN.out HSO.out).mono ?_
    rintro e w1 ⟨rfl, q1, rfl⟩
    have hf1 : Fr [] wr (wr.drewN q1) := (Fr.refl _ _).drewN _
    have hfm1 := hfm.call hf1
    have hol := hB2
    cases hfs : fstM M s' with
    | none =>
      have HR : Hid (R = (s', ops')) := hide (by rw [← HEXP.out, HQ.out]; unfold expK; rw [hfs])
      rw [show optI28 none = -1 from rfl]
      clear hfs
      generalize wr.drewN q1 = wx at hf1 hfm1 ⊢
      go_wp2
      go_quiet (fail)
      have hf2 : Fr [] wr (wx.drewN nq) := hf1.drewN _
      have hfm2 := hfm.call hf2
      generalize wx.drewN nq = wy at hf2 hfm2 ⊢
      go_wp2
      go_ret
      exact ⟨_, rfl, by rw [HR.out]; exact HIN.out.fr0 hf2, by rw [HR.out]; exact HSO.out, by rw [HR.out]; exact own_fr HOWN.out hf2 (fun _ _ => by simp), hfm2⟩
    | some d =>
      rw [show optI28 (some d) = (d : Int) from rfl]
      obtain ⟨hdn, hidl, -⟩ := fstTo_some hfs
      have HEX : Hid (expK M lim (q + 1) s' ops' = if lim < exy M s' d then (s', ops') else expK M lim q (offS M s' d) (ops' ++ [⟨d, false, exy M s' d⟩])) := hide (by
        show (match fstM M s' with | none => _ | some d => _) = _
        rw [hfs])
      have hnd : nAct M (offS M s' d) < nAct M s' := nAct_off hdn (idl_act hidl)
      have hdl : d < l.length := by have := HNL.out; omega
      have hd0 : ¬ (d : Int) < 0 := by omega
      have hdi : (d : Int) < (l.length : Int) := by omega
      have w1 := exy_wrap HMO.out HSO.out d
      have hin1 := HIN.out.fr0 hf1
      have c0 : (wr.drewN q1).cell? ⟨P.b, 0, none⟩ = some (.slice P.Ad l.length P.cd) := hin1.blk.cell 0
      have c2' : (wr.drewN q1).cell? ⟨P.b, 2, none⟩ = some (.slice (some ⟨P.ga, 0, none⟩) l.length l.length) := hin1.blk.cell 2
      have c4 : (wr.drewN q1).cell? ⟨P.b, 4, none⟩ = some (.slice (some ⟨P.gs, 0, none⟩) l.length l.length) := hin1.blk.cell 4
      have s1 : (wr.drewN q1).cell? ⟨P.gs, d, none⟩ = some (.int .u64 (s'.sin d : Int)) := hin1.sn.cell hdl
      have a1 : (wr.drewN q1).cell? ⟨P.ga, d, none⟩ = some (.bool (s'.act d)) := hin1.on.cell hdl
      have fa := hin1.on.frozen d
      obtain ⟨obd, ood, eA, x1⟩ := HDLY.out _ _ hin1 d hdl
      rw [eA] at c0
      have HEA := hide eA
      have HIN1 := hide hin1
      have HOWN1 := hide (own_fr HOWN.out hf1 (fun _ _ => by simp))
      clear hfs hidl hin1 eA HIN HOWN
      generalize wr.drewN q1 = wx at hf1 hfm1 c0 c2' c4 s1 a1 x1 fa HIN1 HOWN1 ⊢
      by_cases hx : lim < exy M s' d
      · have hx' : (lim : Int) < (exy M s' d : Int) := by omega
        have HR : Hid (R = (s', ops')) := hide (by rw [← HEXP.out, HQ.out, HEX.out, if_pos hx])
        clear hx
        go_wp2
        go_quiet (fail)
        have hf2 : Fr [] wx (wx.drewN nq) := (Fr.refl _ _).drewN _
        have hfm2 := hfm1.call hf2
        clear c0 c2' c4 s1 a1 x1 fa
        generalize wx.drewN nq = wy at hf2 hfm2 ⊢
        go_wp2
        go_ret
        exact ⟨_, rfl, by rw [HR.out]; exact HIN1.out.fr0 hf2, by rw [HR.out]; exact HSO.out, by rw [HR.out]; exact own_fr HOWN1.out hf2 (fun _ _ => by simp), hfm2⟩
      · have hx' : ¬ (lim : Int) < (exy M s' d : Int) := by omega
        have HR : Hid (expK M lim q (offS M s' d) (ops' ++ [⟨d, false, exy M s' d⟩]) = R) := hide (by rw [← HEXP.out, HQ.out, HEX.out, if_neg hx])
        have hxl : exy M s' d ≤ lim := by omega
        clear hx HEX HEXP
        clear fa hf1
        go_wp2
        go_quiet (fail)
        have hfq : Fr [] wx (wx.drewN nq) := (Fr.refl _ _).drewN _
        replace c0 := hfq.cell c0 (by simp)
        replace c2' := hfq.cell c2' (by simp)
        replace c4 := hfq.cell c4 (by simp)
        replace s1 := hfq.cell s1 (by simp)
        replace a1 := hfq.cell a1 (by simp)
        replace x1 := hfq.cell x1 (by simp)
        have hfm2 := hfm1.call hfq
        have HIN2 := hide (HIN1.out.fr0 hfq)
        have HOWN2 := hide (own_fr HOWN1.out hfq (fun _ _ => by simp))
        clear hfq hfm1 HIN1 HOWN1
        generalize wx.drewN nq = wy at c0 c2' c4 s1 a1 x1 hfm2 HIN2 HOWN2 ⊢
        go_wp2
        go_quiet (fail)
        have hfq : Fr [] wy (wy.drewN nq) := (Fr.refl _ _).drewN _
        replace c0 := hfq.cell c0 (by simp)
        replace c2' := hfq.cell c2' (by simp)
        replace c4 := hfq.cell c4 (by simp)
        replace s1 := hfq.cell s1 (by simp)
        replace a1 := hfq.cell a1 (by simp)
        replace x1 := hfq.cell x1 (by simp)
        have hfm3 := hfm2.call hfq
        have HIN3 := hide (HIN2.out.fr0 hfq)
        have HOWN3 := hide (own_fr HOWN2.out hfq (fun _ _ => by simp))
        clear hfq hfm2 HIN2 HOWN2
        generalize wy.drewN nq = wz at c0 c2' c4 s1 a1 x1 hfm3 HIN3 HOWN3 ⊢
        have fa := HIN3.out.on.frozen d
        have HIN4 := hide (HIN3.out.act_ d false)
        have HOWN4 := hide (own_fr HOWN3.out ((Fr.refl [P.ga] wz).set (p := ⟨P.ga, d, none⟩) (.inl (by simp)) (.bool false)) (fun y hy hm => HIN3.out.row_own HOWN3.out (by simp [RL.own]) y hy (List.mem_singleton.1 hm)))
        have hfm4 := hfm3.set (p := ⟨P.ga, d, none⟩) (.inl (by simp [RL.own])) (.bool false)
        clear hfm3 HOWN3 HIN3
        go_upto_region 6 with (fail)
        clear c0 c2' c4 s1 a1 x1 fa
        generalize wz.setCell ⟨P.ga, d, none⟩ (.bool false) = w4 at HIN4 HOWN4 hfm4 ⊢
        have hs4 : base ≤ w4.heap.size + 1 := by have := hfm4.size; omega
        obtain ⟨tm, htm⟩ : ∃ tm, tm = exy M s' d := ⟨_, rfl⟩
        rw [← htm] at HR hxl ⊢
        have HTM := hide htm
        clear htm hx' w1
        go_upto_region 7 with (first
          | (at_builtin
             refine wpList_append_row _ rfl (.tmp 57) (.tmp 61) _ rfl base 47 i0 (.agg #[.int .i64 0, .bool false, .int .u64 0]) 3 24 Try.underlying42 HI.out.1 HI.out.2.1 HI.out.2.2.1 HI.out.2.2.2 rfl (by omega) (.slice A2 ops'.length c2) ops'.length (pocs ops') rfl
               (own_fr HOWN4.out ((Fr.refl [] _).alloc _) (fun _ _ => by simp)) (some ⟨w4.heap.size, 0, none⟩) 1 1 [.int .i64 (d : Int), .bool false, .int .u64 (tm : Int)] rfl rfl (row_three w4 _ _ _ _) (by intro u hu; simp at hu; rcases hu with rfl | rfl | rfl <;> rfl) (by simp only [maxLen]; omega) (by omega) (by simpa using hs4) ?_
             intro v1 w5 hown5 hg5 hat5))
        obtain ⟨A5, c5, rfl, -, -, -⟩ := own_slice hown5
        have hf45 : Fr (Value.slice A2 ops'.length c2).ownBlock.toList w4 w5 := ((Fr.refl _ w4).alloc _).trans (Fr.of_grown hg5)
        have HOB : Hid (∀ y ∈ (Value.slice A2 ops'.length c2).ownBlock.toList, base ≤ y) := hide (fun y hy => (own_block HOWN4.out (by simpa using hy)).1)
        have HIN5 := hide (HIN4.out.fr hf45 (fun y hy => Nat.le_trans hbt (HOB.out y hy)) hbb)
        have HOWN5 := hide hown5
        have hfm5 : FrR P base w w5 := hfm4.trans ⟨_, fun y hy => .inr (HOB.out y hy), hf45⟩
        have HS5 : Hid (SOk M { s' with act := setF s'.act d false }) := hide (HSO.out.off d)
        have HOFF : Hid (offS M s' d = (supL M.L d).foldl (markS M tm) { s' with act := setF s'.act d false }) := hide (by rw [HTM.out]; rfl)
        clear hown5 hg5 hat5 hf45 HIN4 HOWN4 hfm4 HOB hs4
        generalize hs0 : ({ s' with act := setF s'.act d false } : RS) = s0 at HIN5 HS5 HOFF
        clear hs0
        go_wp2
        go_loopg [9] (idLinks 0 l).length (fun m i wr => RxIn w P M l base d tm s0 (.slice A5 (ops'.length + 1) c5) (ops'.length + 1) (pocs ops' ++ [.int .i64 (d : Int), .bool false, .int .u64 (tm : Int)]) m i wr)
        case atStart => exact ⟨0, by omega, rfl, HIN5.out, HS5.out, HOWN5.out, hfm5, rfl⟩
        case round =>
          obtain ⟨j, hj, rfl, hin, hso, hown, hfmj, hmm⟩ := hrel
          have HMM := hide hmm
          have HINj := hide hin
          have HSOj := hide hso
          have HOWNj := hide hown
          clear hmm hin hso hown HIN5 HOWN5 hfm5
          have c1 : wr.cell? ⟨P.b, 1, none⟩ = some (.slice P.Al (idLinks 0 l).length P.cl) := HINj.out.blk.cell 1
          by_cases hlt : j < (idLinks 0 l).length
          · obtain ⟨p, hp⟩ : ∃ p, (idLinks 0 l)[j]? = some p := ⟨_, List.getElem?_eq_getElem hlt⟩
            obtain ⟨a, b, rfl, han, hbn, hpn⟩ := HLN.out j p hp
            obtain ⟨ob, oo, eA, q0, q1⟩ := HINj.out.link hp
            have hobo : ob ∉ P.own := (HINj.out.lol _ eA).2.2
            rw [eA] at c1
            have HTK := hide (take_succ_some hpn)
            have hjl : (j : Int) < ((idLinks 0 l).length : Int) := by omega
            clear hp hpn eA
            by_cases had : a = d
            · subst had
              have e1 : ((a : Int) == (a : Int)) = true := by simp
              have HTS : Hid (supL ((toNs (idLinks 0 l)).take (j + 1)) a = supL ((toNs (idLinks 0 l)).take j) a ++ [b]) := hide (by rw [HTK.out, supL_snoc, if_pos rfl])
              have HTF : Hid ((supL ((toNs (idLinks 0 l)).take (j + 1)) a).foldl (markS M tm) s0 = markS M tm ((supL ((toNs (idLinks 0 l)).take j) a).foldl (markS M tm) s0) b) := hide (by rw [HTS.out, List.foldl_append]; rfl)
              clear HTS
              generalize (supL ((toNs (idLinks 0 l)).take j) a).foldl (markS M tm) s0 = sj at HINj HSOj HTF
              have hidle := HIDL.out wr sj b HINj.out hbn
              cases hid : idl M sj b with
              | false =>
                have HE : Hid (markS M tm sj b = sj) := hide (by unfold markS; rw [if_neg (by rw [hid]; decide)])
                rw [hid] at hidle
                clear hid
                go_wp2_with fail
                refine hidle.mono ?_
                clear hidle
                rintro e w6 ⟨rfl, qq, rfl⟩
                have hf6 : Fr [] wr (wr.drewN qq) := (Fr.refl _ _).drewN _
                generalize wr.drewN qq = w6 at hf6 ⊢
                go_wp2
                go_roundg ((idLinks 0 l).length - (j + 1))
                case measure => rw [HMM.out]; omega
                case rel => exact ⟨j + 1, by omega, by go_num, by rw [HTF.out, HE.out]; exact HINj.out.fr0 hf6, by rw [HTF.out, HE.out]; exact HSOj.out, own_fr HOWNj.out hf6 (fun _ _ => by simp), hfmj.call hf6, rfl⟩
              | true =>
                have HE : Hid (markS M tm sj b = { sj with sin := setF sj.sin b tm }) := hide (by unfold markS; rw [if_pos hid])
                rw [hid] at hidle
                clear hid
                go_wp2_with fail
                refine hidle.mono ?_
                clear hidle
                rintro e w6 ⟨rfl, qq, rfl⟩
                have hf6 : Fr [] wr (wr.drewN qq) := (Fr.refl _ _).drewN _
                have hin6 := HINj.out.fr0 hf6
                have hown6 := own_fr HOWNj.out hf6 (fun _ _ => by simp)
                have hfm6 := hfmj.call hf6
                replace q0 := hf6.cell q0 (by simp)
                replace q1 := hf6.cell q1 (by simp)
                replace c1 := hf6.cell c1 (by simp)
                generalize wr.drewN qq = w6 at hin6 hown6 hfm6 q0 q1 c1 ⊢
                have c4 : w6.cell? ⟨P.b, 4, none⟩ = some (.slice (some ⟨P.gs, 0, none⟩) l.length l.length) := hin6.blk.cell 4
                have s1 : w6.cell? ⟨P.gs, b, none⟩ = some (.int .u64 (sj.sin b : Int)) := hin6.sn.cell hbn
                have f1 := hin6.sn.frozen b
                have hbi : (b : Int) < (l.length : Int) := by omega
                have hPb : P.b ≠ P.gs := Blk.ne_ hin6.blk hin6.sn (by decide)
                have hobs : ob ≠ P.gs := fun e => hobo (by rw [e]; simp [RL.own])
                have HI7 := hide (hin6.sin_ b tm)
                have HO7 := hide (own_fr hown6 ((Fr.refl [P.gs] w6).set (p := ⟨P.gs, b, none⟩) (.inl (by simp)) (uv tm)) (fun y hy hm => hin6.row_own hown6 (by simp [RL.own]) y hy (List.mem_singleton.1 hm)))
                have hfm7 := hfm6.set (p := ⟨P.gs, b, none⟩) (.inl (by simp [RL.own])) (uv tm)
                clear hin6 hown6 hf6 hobo
                go_wp2
                go_region_held3 (fun w' => w'.cell? ⟨ob, oo + j * 2, none⟩ = some (.int .i64 (a : Int)) ∧ w'.cell? ⟨ob, oo + j * 2 + 1, none⟩ = some (.int .i64 (b : Int)) ∧ w'.cell? ⟨P.b, 1, none⟩ = some (.slice (some ⟨ob, oo, none⟩) (idLinks 0 l).length P.cl) ∧ w'.cell? ⟨P.b, 4, none⟩ = some (.slice (some ⟨P.gs, 0, none⟩) l.length l.length)) (first | exact ⟨q0, q1, c1, c4⟩ | exact ⟨Fr.cell ((Fr.refl [P.gs] w6).set (.inl (by simp)) _).drew q0 (by simpa using hobs), Fr.cell ((Fr.refl [P.gs] w6).set (.inl (by simp)) _).drew q1 (by simpa using hobs), Fr.cell ((Fr.refl [P.gs] w6).set (.inl (by simp)) _).drew c1 (by simpa using hPb), Fr.cell ((Fr.refl [P.gs] w6).set (.inl (by simp)) _).drew c4 (by simpa using hPb)⟩ | go_keep) (fail)
                go_wp2
                go_roundg ((idLinks 0 l).length - (j + 1))
                case measure => rw [HMM.out]; omega
                case rel => exact ⟨j + 1, by omega, by go_num, by rw [HTF.out, HE.out]; exact HI7.out.fr0 (Fr.refl [] _).drew, by rw [HTF.out]; exact HSOj.out.mark (by omega), own_fr HO7.out (Fr.refl [] _).drew (fun _ _ => by simp), hfm7.call (Fr.refl [] _).drew, rfl⟩
            · have e1 : ((a : Int) == (d : Int)) = false := by simp; omega
              have e2 : (a == d) = false := by simp; omega
              have HTS : Hid (supL ((toNs (idLinks 0 l)).take (j + 1)) d = supL ((toNs (idLinks 0 l)).take j) d) := hide (by rw [HTK.out, supL_snoc, if_neg had])
              have e3 : ¬ (a : Int) = (d : Int) := by omega
              go_wp2
              go_roundg ((idLinks 0 l).length - (j + 1))
              case measure => rw [HMM.out]; omega
              case rel => exact ⟨j + 1, by omega, by go_num, by rw [HTS.out]; exact HINj.out, by rw [HTS.out]; exact HSOj.out, HOWNj.out, hfmj, rfl⟩
          · have hjl : ¬ (j : Int) < ((idLinks 0 l).length : Int) := by omega
            rw [List.take_of_length_le (by rw [HTL.out]; omega)] at HINj HSOj
            rw [← HML.out, ← HOFF.out] at HINj HSOj
            go_wp2
            go_roundg q
            case measure => rw [HQ.out]; omega
            case rel =>
              refine ⟨offS M s' d, ops' ++ [⟨d, false, tm⟩], HINj.out, HSOj.out, ?_, HR.out, by have := HQ.out; omega, by rw [List.length_append, List.length_singleton]; omega, hfmj⟩
              rw [List.length_append, List.length_singleton, pocs_snoc]
              exact HOWNj.out
end
end Go.Proofs.Ytbnfdpemfmeldaa

