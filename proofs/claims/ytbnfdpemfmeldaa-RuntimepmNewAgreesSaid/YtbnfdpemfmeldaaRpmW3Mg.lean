/- Walks: Advance, Active, Usage, NextExpiry, Put. -/
import Derived.Test.YtbnfdpemfmeldaaRpmW2Mg
import Derived.IntWalk
namespace Go.Proofs.Ytbnfdpemfmeldaa
open Go.RowKit

section
variable {w : World} {P : ML} {M : RM} {s : RS}
/-- What a call hands back: the operations, the error; the manager behind it. -/
def CallRet (w : World) (P : ML) (M : RM) (R : RS × List POp × Int) (e : Ending) (w' : World) : Prop :=
  ∃ v, e = .returned (.tuple #[v, .int .i64 R.2.2]) ∧ MgIn w' P M R.1 ∧ w'.ownsRow w.heap.size 47 3 v R.2.1.length (pocs R.2.1) ∧ Fr [P.b, P.g] w w'
def advC (M : RM) (s : RS) (t : Nat) : RS × List POp × Int := if s.clk ≤ t ∧ t ≤ 1152921504606846976 then ((advM M s t).1, (advM M s t).2, 0) else (s, [], 1)
def putC (M : RM) (s : RS) (d : Int) (t : Nat) : RS × List POp × Int :=
  if (0 ≤ d ∧ d < M.n) ∧ s.clk ≤ t ∧ t ≤ 1152921504606846976 then (if s.use d.toNat = 0 then (s, [], 9) else ((putM M s d.toNat t).1, (putM M s d.toNat t).2, 0)) else (s, [], 1)
def getC (M : RM) (s : RS) (d : Int) (t : Nat) : RS × List POp × Int :=
  if (0 ≤ d ∧ d < M.n) ∧ s.clk ≤ t ∧ t ≤ 1152921504606846976 then ((getM M s d.toNat t).1, (getM M s d.toNat t).2, 0) else (s, [], 1)
theorem SOk.tick (h : SOk M s) {t : Nat} (ht : t ≤ 1152921504606846976) : SOk M { s with clk := t } := ⟨h.sin, h.use, ht⟩
theorem SOk.use_ (h : SOk M s) {d u : Nat} (hu : u ≤ 4096) : SOk M (useS s d u) := ⟨h.sin, fun i => by
  show setF s.use d u i ≤ _
  unfold setF
  split
  · exact hu
  · exact h.use i, h.clk⟩
theorem SOk.idle_ (h : SOk M s) {d t : Nat} (ht : t ≤ 1152921504606846976) : SOk M (idleS M s d t) := by
  unfold idleS
  split
  · exact ⟨fun i => by
      show setF s.sin d t i ≤ _
      unfold setF
      split
      · exact ht
      · exact h.sin i, h.use, h.clk⟩
  · exact h
set_option maxHeartbeats 4000000 in
theorem advance28_any (h : MgIn w P M s) (hM : MOk M) (hs : SOk M s) (ht : P.top ≤ w.heap.size) (t : Nat) :
    Calls Try.prog 19 #[.pointer (some ⟨P.b, 0, none⟩), uv t] w (CallRet w P M (advC M s t)) := by
  have HIN := hide h
  have HMO := hide hM
  have HSO := hide hs
  clear h hM hs
  go_enter Try.func19, Try.ntmps19
  go_wp2_with fail
  refine (permitted28_any HIN.out t).mono ?_
  rintro e w1 ⟨rfl, rfl⟩
  by_cases hp : s.clk ≤ t ∧ t ≤ 1152921504606846976
  · rw [decide_eq_true hp]
    have HR : Hid (advC M s t = ((advM M s t).1, (advM M s t).2, 0)) := hide (by unfold advC; rw [if_pos hp])
    have htl := hp.2
    have c2 : w.cell? ⟨P.b, 2, none⟩ = some (.int .u64 (s.clk : Int)) := HIN.out.blk.cell 2
    have f2 := HIN.out.blk.frozen 2
    have HIN2 := hide (HIN.out.tick t)
    have hfm : FrM P w.heap.size w (w.setCell ⟨P.b, 2, none⟩ (uv t)) := (FrM.refl _ _ _).set (.inl rfl) _
    have hsz : (w.setCell ⟨P.b, 2, none⟩ (uv t)).heap.size = w.heap.size := by simp [World.setCell]
    clear hp
    go_wp2_with fail
    rw [show (Value.int .u64 (t : Int)) = uv t from rfl]
    generalize w.setCell ⟨P.b, 2, none⟩ (uv t) = w2 at HIN2 hfm hsz ⊢
    refine (expire28_any HIN2.out HMO.out (HSO.out.tick htl) htl ht (by omega) (ops := []) (own_nil _ _ _ _) (by simp)).mono ?_
    rintro e w3 ⟨v, rfl, hin3, -, hown3, hfm3⟩
    go_wp2
    go_ret2
    refine ⟨v, by rw [HR.out]; rfl, by rw [HR.out]; exact hin3, by rw [HR.out]; exact hown3, (hfm.trans hfm3).two⟩
  · rw [decide_eq_false hp]
    have HR : Hid (advC M s t = (s, [], 1)) := hide (by unfold advC; rw [if_neg hp])
    clear hp
    go_wp2
    go_ret2
    exact ⟨_, by rw [HR.out]; rfl, by rw [HR.out]; exact HIN.out, by rw [HR.out]; exact own_nil _ _ _ _, Fr.refl _ _⟩
set_option maxHeartbeats 1000000 in
theorem active28_any (h : MgIn w P M s) (d : Int) : Calls Try.prog 25 #[.pointer (some ⟨P.b, 0, none⟩), .int .i64 d] w fun e w' => e = .returned (.bool (decide (0 ≤ d ∧ d < M.n) && s.act d.toNat)) ∧ w = w' := by
  have HIN := hide h
  have c0 : w.cell? ⟨P.b, 0, none⟩ = some (.slice (some ⟨P.g, 0, none⟩) M.n P.cg) := h.blk.cell 0
  by_cases hd : 0 ≤ d ∧ d < M.n
  · obtain ⟨k, rfl⟩ := Int.eq_ofNat_of_zero_le hd.1
    have hk : k < M.n := by omega
    have hki : (k : Int) < (M.n : Int) := by omega
    have c3 : w.cell? ⟨P.g, k * 6 + 3, none⟩ = some (.bool (s.act k)) := h.cell hk (by omega)
    clear h
    rw [show (decide (0 ≤ (k : Int) ∧ (k : Int) < M.n) && s.act (k : Int).toNat) = s.act k by rw [decide_eq_true hd]; rfl]
    go_enter Try.func25, Try.ntmps25
    go_wp2_with fail
    refine (exists28_any HIN.out _).mono ?_
    rintro e w1 ⟨rfl, rfl⟩
    rw [decide_eq_true hd]
    clear hd
    go_wp2
    go_ret
    exact ⟨rfl, rfl⟩
  · clear h
    rw [show (decide (0 ≤ d ∧ d < M.n) && s.act d.toNat) = false by rw [decide_eq_false hd]; rfl]
    go_enter Try.func25, Try.ntmps25
    go_wp2_with fail
    refine (exists28_any HIN.out _).mono ?_
    rintro e w1 ⟨rfl, rfl⟩
    rw [decide_eq_false hd]
    clear hd
    go_wp2
    go_ret
    exact ⟨rfl, rfl⟩
set_option maxHeartbeats 1000000 in
theorem usage28_any (h : MgIn w P M s) (d : Int) : Calls Try.prog 26 #[.pointer (some ⟨P.b, 0, none⟩), .int .i64 d] w fun e w' => e = .returned (.int .i64 (if 0 ≤ d ∧ d < M.n then (s.use d.toNat : Int) else 0)) ∧ w = w' := by
  have HIN := hide h
  have c0 : w.cell? ⟨P.b, 0, none⟩ = some (.slice (some ⟨P.g, 0, none⟩) M.n P.cg) := h.blk.cell 0
  by_cases hd : 0 ≤ d ∧ d < M.n
  · obtain ⟨k, rfl⟩ := Int.eq_ofNat_of_zero_le hd.1
    have hk : k < M.n := by omega
    have hki : (k : Int) < (M.n : Int) := by omega
    have c3 : w.cell? ⟨P.g, k * 6 + 4, none⟩ = some (.int .i64 (s.use k : Int)) := h.cell hk (by omega)
    clear h
    rw [if_pos hd, Int.toNat_natCast]
    go_enter Try.func26, Try.ntmps26
    go_wp2_with fail
    refine (exists28_any HIN.out _).mono ?_
    rintro e w1 ⟨rfl, rfl⟩
    rw [decide_eq_true hd]
    clear hd
    go_wp2
    go_ret
    exact ⟨rfl, rfl⟩
  · clear h
    rw [if_neg hd]
    go_enter Try.func26, Try.ntmps26
    go_wp2_with fail
    refine (exists28_any HIN.out _).mono ?_
    rintro e w1 ⟨rfl, rfl⟩
    rw [decide_eq_false hd]
    clear hd
    go_wp2
    go_ret
    exact ⟨rfl, rfl⟩
def nextC (M : RM) (s : RS) : Nat × Bool := match fstM M s with | none => (0, false) | some d => (exy M s d, true)
set_option maxHeartbeats 1000000 in
theorem next28_any (h : MgIn w P M s) (hM : MOk M) (hs : SOk M s) : Calls Try.prog 21 #[.pointer (some ⟨P.b, 0, none⟩)] w fun e w' => e = .returned (.tuple #[uv (nextC M s).1, .bool (nextC M s).2]) ∧ Fr [] w w' := by
  have HIN := hide h
  have HMO := hide hM
  have HSO := hide hs
  clear h hM hs
  go_enter Try.func21, Try.ntmps21
  go_wp2_with fail
  refine (first28_any HIN.out HMO.out HSO.out).mono ?_
  rintro e w1 ⟨rfl, hf1⟩
  cases hf : fstM M s with
  | none =>
    have HN : Hid (nextC M s = (0, false)) := hide (by unfold nextC; rw [hf])
    rw [show optI28 none = -1 from rfl]
    clear hf
    go_wp2
    go_ret2
    exact ⟨by rw [HN.out]; rfl, hf1⟩
  | some d =>
    have HN : Hid (nextC M s = (exy M s d, true)) := hide (by unfold nextC; rw [hf])
    have hdn := (fstTo_some hf).1
    have hd0 : ¬ (d : Int) < 0 := by omega
    rw [show optI28 (some d) = (d : Int) from rfl]
    clear hf
    go_wp2_with fail
    refine (expiry28_any (HIN.out.fr0 hf1) HMO.out HSO.out hdn).mono ?_
    rintro e w2 ⟨rfl, hf2⟩
    go_wp2
    go_ret2
    exact ⟨by rw [HN.out]; rfl, hf1.call hf2⟩
set_option maxHeartbeats 8000000 in
theorem put28_any (h : MgIn w P M s) (hM : MOk M) (hs : SOk M s) (ht : P.top ≤ w.heap.size) (d : Int) (t : Nat) :
    Calls Try.prog 31 #[.pointer (some ⟨P.b, 0, none⟩), .int .i64 d, uv t] w (CallRet w P M (putC M s d t)) := by
  have HIN := hide h
  have HMO := hide hM
  have HSO := hide hs
  clear h hM hs
  go_enter Try.func31, Try.ntmps31
  go_wp2_with fail
  refine (exists28_any HIN.out d).mono ?_
  rintro e w1 ⟨rfl, rfl⟩
  by_cases hd : 0 ≤ d ∧ d < M.n
  · rw [decide_eq_true hd]
    go_wp2_with fail
    refine (permitted28_any HIN.out t).mono ?_
    rintro e w1 ⟨rfl, rfl⟩
    by_cases hp : s.clk ≤ t ∧ t ≤ 1152921504606846976
    · rw [decide_eq_true hp]
      have htl := hp.2
      have HD : Hid (putC M s d t = if s.use d.toNat = 0 then (s, [], 9) else ((putM M s d.toNat t).1, (putM M s d.toNat t).2, 0)) := hide (by unfold putC; rw [if_pos ⟨hd, hp⟩])
      obtain ⟨k, rfl⟩ := Int.eq_ofNat_of_zero_le hd.1
      rw [Int.toNat_natCast] at HD
      have hk : k < M.n := by omega
      have hki : (k : Int) < (M.n : Int) := by omega
      have c0 : w.cell? ⟨P.b, 0, none⟩ = some (.slice (some ⟨P.g, 0, none⟩) M.n P.cg) := HIN.out.blk.cell 0
      have c4 : w.cell? ⟨P.g, k * 6 + 4, none⟩ = some (.int .i64 (s.use k : Int)) := HIN.out.cell hk (by omega)
      clear hd hp
      by_cases hu : s.use k = 0
      · have hb : ((s.use k : Int) == 0) = true := by simp [hu]
        rw [if_pos hu] at HD
        clear hu
        go_wp2
        go_ret2
        exact ⟨_, by rw [HD.out]; rfl, by rw [HD.out]; exact HIN.out, by rw [HD.out]; exact own_nil _ _ _ _, Fr.refl _ _⟩
      · have hb : ((s.use k : Int) == 0) = false := by simp [hu]
        rw [if_neg hu] at HD
        have HU := hide hu
        have c2 : w.cell? ⟨P.b, 2, none⟩ = some (.int .u64 (s.clk : Int)) := HIN.out.blk.cell 2
        have f2 := HIN.out.blk.frozen 2
        have HIN2 := hide (HIN.out.tick t)
        have hfm : FrM P w.heap.size w (w.setCell ⟨P.b, 2, none⟩ (uv t)) := (FrM.refl _ _ _).set (.inl rfl) _
        have hsz : (w.setCell ⟨P.b, 2, none⟩ (uv t)).heap.size = w.heap.size := by simp [World.setCell]
        clear hu
        go_wp2_with fail
        rw [show (Value.int .u64 (t : Int)) = uv t from rfl]
        clear c0 c4 c2 f2
        generalize w.setCell ⟨P.b, 2, none⟩ (uv t) = w2 at HIN2 hfm hsz ⊢
        refine (expire28_any HIN2.out HMO.out (HSO.out.tick htl) htl ht (by omega) (ops := []) (own_nil _ _ _ _) (by simp)).mono ?_
        rintro e w3 ⟨v, rfl, hin3, hso3, hown3, hfm3⟩
        have HPM : Hid (putM M s k t = expM M t (idleS M (useS (expM M t { s with clk := t } []).1 k ((expM M t { s with clk := t } []).1.use k - 1)) k t) (expM M t { s with clk := t } []).2) := hide rfl
        have HOL : Hid ((expM M t { s with clk := t } []).2.length ≤ 100) := hide (by
          have h1 := expK_len (M := M) t (M.n + 1) { s with clk := t } []
          have h2 := nAct_le M { s with clk := t }
          have h3 := HMO.out.n
          unfold expM
          simp at h1
          omega)
        have HUP : Hid (0 < (expM M t { s with clk := t } []).1.use k) := hide (by
          unfold expM
          rw [(expK_use t _ _ _).1]
          have := HU.out
          show 0 < s.use k
          omega)
        generalize expM M t { s with clk := t } [] = E at hin3 hso3 hown3 HPM HOL HUP
        obtain ⟨A3, c3, rfl, -, -, -⟩ := own_slice hown3
        have hfm03 := hfm.trans hfm3
        have c0 : w3.cell? ⟨P.b, 0, none⟩ = some (.slice (some ⟨P.g, 0, none⟩) M.n P.cg) := hin3.blk.cell 0
        have c4 : w3.cell? ⟨P.g, k * 6 + 4, none⟩ = some (.int .i64 (E.1.use k : Int)) := hin3.cell hk (by omega)
        have f4 := hin3.frozen (k * 6 + 4)
        have hue := hso3.use k
        obtain ⟨u, hue1⟩ : ∃ u : Nat, u = E.1.use k - 1 := ⟨_, rfl⟩
        have hwu : IntKind.i64.wrap ((E.1.use k : Int) - 1) = (u : Int) := by have := HUP.out; rw [IntWalk.i64_in _ (by omega)]; omega
        rw [← hue1] at HPM
        have HIN4 := hide (hin3.put (stvs_use P.S P.C M E.1 hk u) rfl)
        have HOWN4 := hide (own_fr hown3 ((Fr.refl [P.g] w3).set (p := ⟨P.g, k * 6 + 4, none⟩) (.inl (by simp)) (nv u)) (fun y hy hm => hin3.row_own hown3 (.inr rfl) y hy (List.mem_singleton.1 hm)))
        have hfm4 := hfm03.set (p := ⟨P.g, k * 6 + 4, none⟩) (.inr (.inl rfl)) (nv u)
        have HSO4 : Hid (SOk M (useS E.1 k u)) := hide (hso3.use_ (by omega))
        clear hin3 hown3 hso3 hue hue1
        go_upto_region 8 with (fail)
        rw [show (Value.int .i64 (u : Int)) = nv u from rfl]
        generalize w3.setCell ⟨P.g, k * 6 + 4, none⟩ (nv u) = w4 at HIN4 HOWN4 hfm4 ⊢
        clear c0 c4 f4 hwu
        generalize useS E.1 k u = s4 at HIN4 HSO4 HPM
        go_wp2_with fail
        refine (idle28_any HIN4.out HMO.out hk).mono ?_
        rintro e w5 ⟨rfl, hf5⟩
        have HIN5 := hide (HIN4.out.fr0 hf5)
        have HOWN5 := hide (own_fr HOWN4.out hf5 (fun _ _ => by simp))
        have hfm5 := hfm4.call hf5
        cases hid : idl M s4 k with
        | false =>
          have HE : Hid (idleS M s4 k t = s4) := hide (by unfold idleS; rw [if_neg (by rw [hid]; decide)])
          rw [HE.out] at HPM
          clear hid
          have hz5 := hfm5.size
          go_wp2_with fail
          refine (expire28_any HIN5.out HMO.out HSO4.out htl ht hz5 HOWN5.out HOL.out).mono ?_
          rintro e w6 ⟨v, rfl, hin6, -, hown6, hfm6⟩
          rw [← HPM.out] at hin6 hown6
          go_wp2
          go_ret2
          exact ⟨v, by rw [HD.out]; rfl, by rw [HD.out]; exact hin6, by rw [HD.out]; exact hown6, (hfm5.trans hfm6).two⟩
        | true =>
          have HE : Hid (idleS M s4 k t = { s4 with sin := setF s4.sin k t }) := hide (by unfold idleS; rw [if_pos hid])
          have c0 : w5.cell? ⟨P.b, 0, none⟩ = some (.slice (some ⟨P.g, 0, none⟩) M.n P.cg) := HIN5.out.blk.cell 0
          have c5 : w5.cell? ⟨P.g, k * 6 + 5, none⟩ = some (.int .u64 (s4.sin k : Int)) := HIN5.out.cell hk (by omega)
          have f5 := HIN5.out.frozen (k * 6 + 5)
          have HIN6 := hide (HIN5.out.put (stvs_sin P.S P.C M s4 hk t) rfl)
          rw [← HE.out] at HIN6
          have HOWN6 := hide (own_fr HOWN5.out ((Fr.refl [P.g] w5).set (p := ⟨P.g, k * 6 + 5, none⟩) (.inl (by simp)) (uv t)) (fun y hy hm => HIN5.out.row_own HOWN5.out (.inr rfl) y hy (List.mem_singleton.1 hm)))
          have hfm6 := hfm5.set (p := ⟨P.g, k * 6 + 5, none⟩) (.inr (.inl rfl)) (uv t)
          clear hid
          go_upto_region 10 with (fail)
          rw [show (Value.int .u64 (t : Int)) = uv t from rfl]
          generalize w5.setCell ⟨P.g, k * 6 + 5, none⟩ (uv t) = w6 at HIN6 HOWN6 hfm6 ⊢
          clear c0 c5 f5
          have hz6 := hfm6.size
          go_wp2_with fail
          refine (expire28_any HIN6.out HMO.out (HSO4.out.idle_ htl) htl ht hz6 HOWN6.out HOL.out).mono ?_
          rintro e w7 ⟨v, rfl, hin7, -, hown7, hfm7⟩
          rw [← HPM.out] at hin7 hown7
          go_wp2
          go_ret2
          exact ⟨v, by rw [HD.out]; rfl, by rw [HD.out]; exact hin7, by rw [HD.out]; exact hown7, (hfm6.trans hfm7).two⟩
    · rw [decide_eq_false hp]
      have HR : Hid (putC M s d t = (s, [], 1)) := hide (by unfold putC; rw [if_neg (fun h => hp h.2)])
      clear hp hd
      go_wp2
      go_ret2
      exact ⟨_, by rw [HR.out]; rfl, by rw [HR.out]; exact HIN.out, by rw [HR.out]; exact own_nil _ _ _ _, Fr.refl _ _⟩
  · rw [decide_eq_false hd]
    have HR : Hid (putC M s d t = (s, [], 1)) := hide (by unfold putC; rw [if_neg (fun h => hd h.1)])
    clear hd
    go_wp2
    go_ret2
    exact ⟨_, by rw [HR.out]; rfl, by rw [HR.out]; exact HIN.out, by rw [HR.out]; exact own_nil _ _ _ _, Fr.refl _ _⟩
end
end Go.Proofs.Ytbnfdpemfmeldaa

