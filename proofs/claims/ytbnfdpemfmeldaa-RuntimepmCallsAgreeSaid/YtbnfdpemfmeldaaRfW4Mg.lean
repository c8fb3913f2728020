/- Walks over the reference of chapter 28: Advance, Put. -/
import Derived.Test.YtbnfdpemfmeldaaRfW3Mg
import Derived.Test.YtbnfdpemfmeldaaRpmP2Mg
import Derived.IntWalk
namespace Go.Proofs.Ytbnfdpemfmeldaa
open Go.RowKit

structure RCtx (M : RM) (l : List ID) : Prop where
  hm : M = newRM l
  hB : basicM (l.length : Int) (idLinks 0 l) = 0
  hM : MOk M
  hO : Ordd M
section
variable {w : World} {P : RL} {l : List ID} {s : RS} {M : RM}
def CallRetR (w : World) (P : RL) (l : List ID) (R : RS × List POp × Int) (e : Ending) (w' : World) : Prop :=
  ∃ v, e = .returned (.tuple #[v, .int .i64 R.2.2]) ∧ RgIn w' P l R.1 ∧ w'.ownsRow w.heap.size 47 3 v R.2.1.length (pocs R.2.1) ∧ Fr P.own w w'
theorem RCtx.n (C : RCtx M l) : M.n = l.length := by rw [C.hm]; rfl
theorem RCtx.idle_ (C : RCtx M l) (h : RgIn w P l s) {i : Nat} (hi : i < l.length) : Calls Try.prog 54 #[.pointer (some ⟨P.b, 0, none⟩), .int .i64 (i : Int)] w fun e w' => e = .returned (.bool (idl M s i)) ∧ ∃ q, w' = w.drewN q := by
  rw [C.hm]
  exact ridle28_any h C.hB hi
theorem expLen (hM : MOk M) (s : RS) (t : Nat) : (expM M t s []).2.length ≤ 100 := by
  have h1 := expK_len (M := M) t (M.n + 1) s []
  have h2 := nAct_le M s
  have h3 := hM.n
  unfold expM
  simp at h1
  omega
set_option maxHeartbeats 4000000 in
set_option maxRecDepth 100000 in
theorem radvance28_any (C : RCtx M l) (h : RgIn w P l s) (hs : SOk M s) (hbb : P.bot ≤ P.top) (ht : P.top ≤ w.heap.size) (t : Nat) :
    Calls Try.prog 42 #[.pointer (some ⟨P.b, 0, none⟩), uv t] w (CallRetR w P l (advC M s t)) := by
  have HC := hide C
  have HIN := hide h
  have HSO := hide hs
  clear h hs C
  go_enter Try.func42, Try.ntmps42
  go_wp2_with fail
  refine (bad28_any HIN.out t).mono ?_
  rintro e w1 ⟨rfl, rfl⟩
  by_cases hp : s.clk ≤ t ∧ t ≤ 1152921504606846976
  · rw [decide_eq_true hp]
    have HR : Hid (advC M s t = ((advM M s t).1, (advM M s t).2, 0)) := hide (by unfold advC; rw [if_pos hp])
    have htl := hp.2
    have c2 : w.cell? ⟨P.b, 5, none⟩ = some (.int .u64 (s.clk : Int)) := HIN.out.blk.cell 5
    have f2 := HIN.out.blk.frozen 5
    have HIN2 := hide (HIN.out.tick t)
    have hfm : FrR P w.heap.size w (w.setCell ⟨P.b, 5, none⟩ (uv t)) := (FrR.refl _ _ _).set (.inl (by simp [RL.own])) _
    have hsz : (w.setCell ⟨P.b, 5, none⟩ (uv t)).heap.size = w.heap.size := by simp [World.setCell]
    clear hp
    go_wp2_with fail
    rw [show (Value.int .u64 (t : Int)) = uv t from rfl]
    generalize w.setCell ⟨P.b, 5, none⟩ (uv t) = w2 at HIN2 hfm hsz ⊢
    refine (rexpire28_any HIN2.out HC.out.hB HC.out.hm HC.out.hM (HSO.out.tick htl) htl ht hbb (by omega) (ops := []) (own_nil _ _ _ _) (by simp)).mono ?_
    rintro e w3 ⟨v, rfl, hin3, -, hown3, hfm3⟩
    go_wp2
    go_ret2
    refine ⟨v, by rw [HR.out]; rfl, by rw [HR.out]; exact hin3, by rw [HR.out]; exact hown3, (hfm.trans hfm3).four⟩
  · rw [decide_eq_false hp]
    have HR : Hid (advC M s t = (s, [], 1)) := hide (by unfold advC; rw [if_neg hp])
    clear hp
    go_wp2
    go_ret2
    exact ⟨_, by rw [HR.out]; rfl, by rw [HR.out]; exact HIN.out, by rw [HR.out]; exact own_nil _ _ _ _, Fr.refl _ _⟩
set_option maxHeartbeats 8000000 in
set_option maxRecDepth 100000 in
theorem rput28_any (C : RCtx M l) (h : RgIn w P l s) (hs : SOk M s) (hbb : P.bot ≤ P.top) (ht : P.top ≤ w.heap.size) (d : Int) (t : Nat) :
    Calls Try.prog 41 #[.pointer (some ⟨P.b, 0, none⟩), .int .i64 d, uv t] w (CallRetR w P l (putC M s d t)) := by
  have HC := hide C
  have HIN := hide h
  have HSO := hide hs
  have hMn := C.n
  have HMN := hide hMn
  have c0 : w.cell? ⟨P.b, 0, none⟩ = some (.slice P.Ad l.length P.cd) := h.blk.cell 0
  clear h hs C
  by_cases hd : 0 ≤ d ∧ d < M.n
  · obtain ⟨k, rfl⟩ := Int.eq_ofNat_of_zero_le hd.1
    have hk0 : ¬ (k : Int) < 0 := by omega
    have hkl : ¬ (l.length : Int) ≤ (k : Int) := by omega
    have hki : (k : Int) < (l.length : Int) := by omega
    have hk : k < l.length := by omega
    clear hMn
    go_enter Try.func41, Try.ntmps41
    go_wp2_with fail
    refine (bad28_any HIN.out t).mono ?_
    rintro e w1 ⟨rfl, rfl⟩
    by_cases hp : s.clk ≤ t ∧ t ≤ 1152921504606846976
    · rw [decide_eq_true hp]
      have htl := hp.2
      have HD : Hid (putC M s k t = if s.use k = 0 then (s, [], 9) else ((putM M s k t).1, (putM M s k t).2, 0)) := hide (by unfold putC; rw [if_pos ⟨hd, hp⟩]; simp only [Int.toNat_natCast])
      have c3 : w.cell? ⟨P.b, 3, none⟩ = some (.slice (some ⟨P.gu, 0, none⟩) l.length l.length) := HIN.out.blk.cell 3
      have u1 : w.cell? ⟨P.gu, k, none⟩ = some (.int .i64 (s.use k : Int)) := HIN.out.us.cell hk
      clear hd hp
      by_cases hu : s.use k = 0
      · have hb : ((s.use k : Int) == 0) = true := by simp [hu]
        rw [if_pos hu] at HD
        clear hu
        go_wp2
        go_ret2
        exact ⟨_, by rw [HD.out]; rfl, by rw [HD.out]; exact HIN.out, by rw [HD.out]; exact own_nil _ _ _ _, Fr.refl _ _⟩
      · have hb : ((s.use k : Int) == 0) = false := by simp [hu]
        rw [if_neg hu] at HD
        have HU := hide hu
        have c2 : w.cell? ⟨P.b, 5, none⟩ = some (.int .u64 (s.clk : Int)) := HIN.out.blk.cell 5
        have f2 := HIN.out.blk.frozen 5
        have HIN2 := hide (HIN.out.tick t)
        have hfm : FrR P w.heap.size w (w.setCell ⟨P.b, 5, none⟩ (uv t)) := (FrR.refl _ _ _).set (.inl (by simp [RL.own])) _
        have hsz : (w.setCell ⟨P.b, 5, none⟩ (uv t)).heap.size = w.heap.size := by simp [World.setCell]
        clear hu
        go_wp2_with fail
        rw [show (Value.int .u64 (t : Int)) = uv t from rfl]
        clear c0 c2 c3 u1 f2
        generalize w.setCell ⟨P.b, 5, none⟩ (uv t) = w2 at HIN2 hfm hsz ⊢
        refine (rexpire28_any HIN2.out HC.out.hB HC.out.hm HC.out.hM (HSO.out.tick htl) htl ht hbb (by omega) (ops := []) (own_nil _ _ _ _) (by simp)).mono ?_
        rintro e w3 ⟨v, rfl, hin3, hso3, hown3, hfm3⟩
        have HPM : Hid (putM M s k t = expM M t (idleS M (useS (expM M t { s with clk := t } []).1 k ((expM M t { s with clk := t } []).1.use k - 1)) k t) (expM M t { s with clk := t } []).2) := hide rfl
        have HOL := hide (expLen HC.out.hM { s with clk := t } t)
        have HUP : Hid (0 < (expM M t { s with clk := t } []).1.use k) := hide (by
          unfold expM
          rw [(expK_use t _ _ _).1]
          have := HU.out
          show 0 < s.use k
          omega)
        generalize expM M t { s with clk := t } [] = E at hin3 hso3 hown3 HPM HOL HUP
        obtain ⟨A3, c3, rfl, -, -, -⟩ := own_slice hown3
        have hfm03 := hfm.trans hfm3
        have c3' : w3.cell? ⟨P.b, 3, none⟩ = some (.slice (some ⟨P.gu, 0, none⟩) l.length l.length) := hin3.blk.cell 3
        have u1 : w3.cell? ⟨P.gu, k, none⟩ = some (.int .i64 (E.1.use k : Int)) := hin3.us.cell hk
        have f4 := hin3.us.frozen k
        have hue := hso3.use k
        obtain ⟨u, hue1⟩ : ∃ u : Nat, u = E.1.use k - 1 := ⟨_, rfl⟩
        have hwu : IntKind.i64.wrap ((E.1.use k : Int) - 1) = (u : Int) := by have := HUP.out; rw [IntWalk.i64_in _ (by omega)]; omega
        rw [← hue1] at HPM
        have HIN4 := hide (hin3.use_ k u)
        have HOWN4 := hide (own_fr hown3 ((Fr.refl [P.gu] w3).set (p := ⟨P.gu, k, none⟩) (.inl (by simp)) (nv u)) (fun y hy hm => hin3.row_own hown3 (by simp [RL.own]) y hy (List.mem_singleton.1 hm)))
        have hfm4 := hfm03.set (p := ⟨P.gu, k, none⟩) (.inl (by simp [RL.own])) (nv u)
        have HSO4 : Hid (SOk M (useS E.1 k u)) := hide (hso3.use_ (by omega))
        clear hin3 hown3 hso3 hue hue1
        go_upto_region 8 with (fail)
        rw [show (Value.int .i64 (u : Int)) = nv u from rfl]
        generalize w3.setCell ⟨P.gu, k, none⟩ (nv u) = w4 at HIN4 HOWN4 hfm4 ⊢
        clear c3' u1 f4 hwu
        generalize useS E.1 k u = s4 at HIN4 HSO4 HPM
        go_wp2_with fail
        refine (HC.out.idle_ HIN4.out hk).mono ?_
        rintro e w5 ⟨rfl, qq, rfl⟩
        have hf5 : Fr [] w4 (w4.drewN qq) := (Fr.refl _ _).drewN _
        generalize w4.drewN qq = w5 at hf5 ⊢
        have HIN5 := hide (HIN4.out.fr0 hf5)
        have HOWN5 := hide (own_fr HOWN4.out hf5 (fun _ _ => by simp))
        have hfm5 := hfm4.call hf5
        cases hid : idl M s4 k with
        | false =>
          have HE : Hid (idleS M s4 k t = s4) := hide (by unfold idleS; rw [if_neg (by rw [hid]; decide)])
          rw [HE.out] at HPM
          clear hid
          have hz5 := hfm5.size
          go_wp2_with fail
          refine (rexpire28_any HIN5.out HC.out.hB HC.out.hm HC.out.hM HSO4.out htl ht hbb hz5 HOWN5.out HOL.out).mono ?_
          rintro e w6 ⟨v, rfl, hin6, -, hown6, hfm6⟩
          rw [← HPM.out] at hin6 hown6
          go_wp2
          go_ret2
          exact ⟨v, by rw [HD.out]; rfl, by rw [HD.out]; exact hin6, by rw [HD.out]; exact hown6, (hfm5.trans hfm6).four⟩
        | true =>
          have HE : Hid (idleS M s4 k t = { s4 with sin := setF s4.sin k t }) := hide (by unfold idleS; rw [if_pos hid])
          have c4 : w5.cell? ⟨P.b, 4, none⟩ = some (.slice (some ⟨P.gs, 0, none⟩) l.length l.length) := HIN5.out.blk.cell 4
          have s1 : w5.cell? ⟨P.gs, k, none⟩ = some (.int .u64 (s4.sin k : Int)) := HIN5.out.sn.cell hk
          have f5 := HIN5.out.sn.frozen k
          have HIN6 := hide (HIN5.out.sin_ k t)
          rw [← HE.out] at HIN6
          have HOWN6 := hide (own_fr HOWN5.out ((Fr.refl [P.gs] w5).set (p := ⟨P.gs, k, none⟩) (.inl (by simp)) (uv t)) (fun y hy hm => HIN5.out.row_own HOWN5.out (by simp [RL.own]) y hy (List.mem_singleton.1 hm)))
          have hfm6 := hfm5.set (p := ⟨P.gs, k, none⟩) (.inl (by simp [RL.own])) (uv t)
          clear hid
          go_upto_region 10 with (fail)
          rw [show (Value.int .u64 (t : Int)) = uv t from rfl]
          generalize w5.setCell ⟨P.gs, k, none⟩ (uv t) = w6 at HIN6 HOWN6 hfm6 ⊢
          clear c4 s1 f5
          have hz6 := hfm6.size
          go_wp2_with fail
          refine (rexpire28_any HIN6.out HC.out.hB HC.out.hm HC.out.hM (HSO4.out.idle_ htl) htl ht hbb hz6 HOWN6.out HOL.out).mono ?_
          rintro e w7 ⟨v, rfl, hin7, -, hown7, hfm7⟩
          rw [← HPM.out] at hin7 hown7
          go_wp2
          go_ret2
          exact ⟨v, by rw [HD.out]; rfl, by rw [HD.out]; exact hin7, by rw [HD.out]; exact hown7, (hfm6.trans hfm7).four⟩
    · rw [decide_eq_false hp]
      have HR : Hid (putC M s k t = (s, [], 1)) := hide (by unfold putC; rw [if_neg (fun h => hp h.2)])
      clear hp hd
      go_wp2
      go_ret2
      exact ⟨_, by rw [HR.out]; rfl, by rw [HR.out]; exact HIN.out, by rw [HR.out]; exact own_nil _ _ _ _, Fr.refl _ _⟩
  · have HR : Hid (putC M s d t = (s, [], 1)) := hide (by unfold putC; rw [if_neg (fun h => hd h.1)])
    have hway : d < 0 ∨ (¬ d < 0 ∧ (l.length : Int) ≤ d) := by omega
    clear hd hMn
    rcases hway with h1 | ⟨h1, h2⟩
    all_goals
      go_enter Try.func41, Try.ntmps41
      go_wp2
      go_ret2
      exact ⟨_, by rw [HR.out]; rfl, by rw [HR.out]; exact HIN.out, by rw [HR.out]; exact own_nil _ _ _ _, Fr.refl _ _⟩
end
end Go.Proofs.Ytbnfdpemfmeldaa

