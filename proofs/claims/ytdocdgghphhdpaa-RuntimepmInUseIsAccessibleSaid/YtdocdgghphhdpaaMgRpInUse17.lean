/- Walks: Advance, Active, Usage, NextExpiry, Put. -/
import Derived.Test.YtdocdgghphhdpaaRpmW2Mg
import Derived.IntWalk
import Derived.Test.YtdocdgghphhdpaaMgRpInUse8
namespace Go.Proofs.Ytdocdgghphhdpaa
open Go.RowKit

section
variable {w : World} {P : ML} {M : RM} {s : RS}
/-- What a call hands back: the operations, the error; the manager behind it. -/
def CallRet (w : World) (P : ML) (M : RM) (R : RS × List POp × Int) (e : Ending) (w' : World) : Prop :=
  ∃ v, e = .returned (.tuple #[v, .int .i64 R.2.2]) ∧ MgIn w' P M R.1 ∧ w'.ownsRow w.heap.size 148 3 v R.2.1.length (pocs R.2.1) ∧ Fr [P.b, P.g] w w'
def advC (M : RM) (s : RS) (t : Nat) : RS × List POp × Int := if s.clk ≤ t ∧ t ≤ 1152921504606846976 then ((advM M s t).1, (advM M s t).2, 0) else (s, [], 1)
def putC (M : RM) (s : RS) (d : Int) (t : Nat) : RS × List POp × Int :=
  if (0 ≤ d ∧ d < M.n) ∧ s.clk ≤ t ∧ t ≤ 1152921504606846976 then (if s.use d.toNat = 0 then (s, [], 9) else ((putM M s d.toNat t).1, (putM M s d.toNat t).2, 0)) else (s, [], 1)
def getC (M : RM) (s : RS) (d : Int) (t : Nat) : RS × List POp × Int :=
  if (0 ≤ d ∧ d < M.n) ∧ s.clk ≤ t ∧ t ≤ 1152921504606846976 then ((getM M s d.toNat t).1, (getM M s d.toNat t).2, 0) else (s, [], 1)
theorem SOk.tick (h : SOk M s) {t : Nat} (ht : t ≤ 1152921504606846976) : SOk M { s with clk := t } := ⟨h.sin, h.use, ht⟩
theorem SOk.use_ (h : SOk M s) {d u : Nat} (hu : u ≤ 4096) : SOk M (useS s d u) := ⟨h.sin, fun i => by
  show setF s.use d u i ≤ _
  unfold setF
  split
  · exact hu
  · exact h.use i, h.clk⟩
theorem SOk.idle_ (h : SOk M s) {d t : Nat} (ht : t ≤ 1152921504606846976) : SOk M (idleS M s d t) := by
  unfold idleS
  split
  · exact ⟨fun i => by
      show setF s.sin d t i ≤ _
      unfold setF
      split
      · exact ht
      · exact h.sin i, h.use, h.clk⟩
  · exact h
set_option maxHeartbeats 4000000 in
theorem advance28_any (h : MgIn w P M s) (hM : MOk M) (hs : SOk M s) (ht : P.top ≤ w.heap.size) (t : Nat) :
    Calls Try.prog 49 #[.pointer (some ⟨P.b, 0, none⟩), uv t] w (CallRet w P M (advC M s t)) := by
  have HIN := hide h
  have HMO := hide hM
  have HSO := hide hs
  clear h hM hs
  go_enter Try.func49, Try.ntmps49
  go_wp2_with fail
  refine (permitted28_any HIN.out t).mono ?_
  rintro e w1 ⟨rfl, rfl⟩
  by_cases hp : s.clk ≤ t ∧ t ≤ 1152921504606846976
  · rw [decide_eq_true hp]
    have HR : Hid (advC M s t = ((advM M s t).1, (advM M s t).2, 0)) := hide (by unfold advC; rw [if_pos hp])
    have htl := hp.2
    have c2 : w.cell? ⟨P.b, 2, none⟩ = some (.int .u64 (s.clk : Int)) := HIN.out.blk.cell 2
    have f2 := HIN.out.blk.frozen 2
    have HIN2 := hide (HIN.out.tick t)
    have hfm : FrM P w.heap.size w (w.setCell ⟨P.b, 2, none⟩ (uv t)) := (FrM.refl _ _ _).set (.inl rfl) _
    have hsz : (w.setCell ⟨P.b, 2, none⟩ (uv t)).heap.size = w.heap.size := by simp [World.setCell]
    clear hp
    go_wp2_with fail
    rw [show (Value.int .u64 (t : Int)) = uv t from rfl]
    generalize w.setCell ⟨P.b, 2, none⟩ (uv t) = w2 at HIN2 hfm hsz ⊢
    refine (expire28_any HIN2.out HMO.out (HSO.out.tick htl) htl ht (by omega) (ops := []) (own_nil _ _ _ _) (by simp)).mono ?_
    rintro e w3 ⟨v, rfl, hin3, -, hown3, hfm3⟩
    go_wp2
    go_ret2
    refine ⟨v, by rw [HR.out]; rfl, by rw [HR.out]; exact hin3, by rw [HR.out]; exact hown3, (hfm.trans hfm3).two⟩
  · rw [decide_eq_false hp]
    have HR : Hid (advC M s t = (s, [], 1)) := hide (by unfold advC; rw [if_neg hp])
    clear hp
    go_wp2
    go_ret2
    exact ⟨_, by rw [HR.out]; rfl, by rw [HR.out]; exact HIN.out, by rw [HR.out]; exact own_nil _ _ _ _, Fr.refl _ _⟩
set_option maxHeartbeats 1000000 in
theorem active28_any (h : MgIn w P M s) (d : Int) : Calls Try.prog 46 #[.pointer (some ⟨P.b, 0, none⟩), .int .i64 d] w fun e w' => e = .returned (.bool (decide (0 ≤ d ∧ d < M.n) && s.act d.toNat)) ∧ w = w' := by
  have HIN := hide h
  have c0 : w.cell? ⟨P.b, 0, none⟩ = some (.slice (some ⟨P.g, 0, none⟩) M.n P.cg) := h.blk.cell 0
  by_cases hd : 0 ≤ d ∧ d < M.n
  · obtain ⟨k, rfl⟩ := Int.eq_ofNat_of_zero_le hd.1
    have hk : k < M.n := by omega
    have hki : (k : Int) < (M.n : Int) := by omega
    have c3 : w.cell? ⟨P.g, k * 6 + 3, none⟩ = some (.bool (s.act k)) := h.cell hk (by omega)
    clear h
    rw [show (decide (0 ≤ (k : Int) ∧ (k : Int) < M.n) && s.act (k : Int).toNat) = s.act k by rw [decide_eq_true hd]; rfl]
    go_enter Try.func46, Try.ntmps46
    go_wp2_with fail
    refine (exists28_any HIN.out _).mono ?_
    rintro e w1 ⟨rfl, rfl⟩
    rw [decide_eq_true hd]
    clear hd
    go_wp2
    go_ret
    exact ⟨rfl, rfl⟩
  · clear h
    rw [show (decide (0 ≤ d ∧ d < M.n) && s.act d.toNat) = false by rw [decide_eq_false hd]; rfl]
    go_enter Try.func46, Try.ntmps46
    go_wp2_with fail
    refine (exists28_any HIN.out _).mono ?_
    rintro e w1 ⟨rfl, rfl⟩
    rw [decide_eq_false hd]
    clear hd
    go_wp2
    go_ret
    exact ⟨rfl, rfl⟩
set_option maxHeartbeats 1000000 in
theorem usage28_any (h : MgIn w P M s) (d : Int) : Calls Try.prog 47 #[.pointer (some ⟨P.b, 0, none⟩), .int .i64 d] w fun e w' => e = .returned (.int .i64 (if 0 ≤ d ∧ d < M.n then (s.use d.toNat : Int) else 0)) ∧ w = w' := by
  have HIN := hide h
  have c0 : w.cell? ⟨P.b, 0, none⟩ = some (.slice (some ⟨P.g, 0, none⟩) M.n P.cg) := h.blk.cell 0
  by_cases hd : 0 ≤ d ∧ d < M.n
  · obtain ⟨k, rfl⟩ := Int.eq_ofNat_of_zero_le hd.1
    have hk : k < M.n := by omega
    have hki : (k : Int) < (M.n : Int) := by omega
    have c3 : w.cell? ⟨P.g, k * 6 + 4, none⟩ = some (.int .i64 (s.use k : Int)) := h.cell hk (by omega)
    clear h
    rw [if_pos hd, Int.toNat_natCast]
    go_enter Try.func47, Try.ntmps47
    go_wp2_with fail
    refine (exists28_any HIN.out _).mono ?_
    rintro e w1 ⟨rfl, rfl⟩
    rw [decide_eq_true hd]
    clear hd
    go_wp2
    go_ret
    exact ⟨rfl, rfl⟩
  · clear h
    rw [if_neg hd]
    go_enter Try.func47, Try.ntmps47
    go_wp2_with fail
    refine (exists28_any HIN.out _).mono ?_
    rintro e w1 ⟨rfl, rfl⟩
    rw [decide_eq_false hd]
    clear hd
    go_wp2
    go_ret
    exact ⟨rfl, rfl⟩
def nextC (M : RM) (s : RS) : Nat × Bool := match fstM M s with | none => (0, false) | some d => (exy M s d, true)
set_option maxHeartbeats 1000000 in
theorem next28_any (h : MgIn w P M s) (hM : MOk M) (hs : SOk M s) : Calls Try.prog 80 #[.pointer (some ⟨P.b, 0, none⟩)] w fun e w' => e = .returned (.tuple #[uv (nextC M s).1, .bool (nextC M s).2]) ∧ Fr [] w w' := by
  have HIN := hide h
  have HMO := hide hM
  have HSO := hide hs
  clear h hM hs
  go_enter Try.func80, Try.ntmps80
  go_wp2_with fail
  refine (first28_any HIN.out HMO.out HSO.out).mono ?_
  rintro e w1 ⟨rfl, hf1⟩
  cases hf : fstM M s with
  | none =>
    have HN : Hid (nextC M s = (0, false)) := hide (by unfold nextC; rw [hf])
    rw [show optI28 none = -1 from rfl]
    clear hf
    go_wp2
    go_ret2
    exact ⟨by rw [HN.out]; rfl, hf1⟩
  | some d =>
    have HN : Hid (nextC M s = (exy M s d, true)) := hide (by unfold nextC; rw [hf])
    have hdn := (fstTo_some hf).1
    have hd0 : ¬ (d : Int) < 0 := by omega
    rw [show optI28 (some d) = (d : Int) from rfl]
    clear hf
    go_wp2_with fail
    refine (expiry28_any (HIN.out.fr0 hf1) HMO.out HSO.out hdn).mono ?_
    rintro e w2 ⟨rfl, hf2⟩
    go_wp2
    go_ret2
    exact ⟨by rw [HN.out]; rfl, hf1.call hf2⟩
set_option maxHeartbeats 8000000 in
theorem put28_any (h : MgIn w P M s) (hM : MOk M) (hs : SOk M s) (ht : P.top ≤ w.heap.size) (d : Int) (t : Nat) :
    Calls Try.prog 48 #[.pointer (some ⟨P.b, 0, none⟩), .int .i64 d, uv t] w (CallRet w P M (putC M s d t)) := by
  have HIN := hide h
  have HMO := hide hM
  have HSO := hide hs
  clear h hM hs
  go_enter Try.func48, Try.ntmps48
  go_wp2_with fail
  refine (exists28_any HIN.out d).mono ?_
  rintro e w1 ⟨rfl, rfl⟩
  by_cases hd : 0 ≤ d ∧ d < M.n
  · rw [decide_eq_true hd]
    go_wp2_with fail
    refine (permitted28_any HIN.out t).mono ?_
    rintro e w1 ⟨rfl, rfl⟩
    by_cases hp : s.clk ≤ t ∧ t ≤ 1152921504606846976
    · rw [decide_eq_true hp]
      have htl := hp.2
      have HD : Hid (putC M s d t = if s.use d.toNat = 0 then (s, [], 9) else ((putM M s d.toNat t).1, (putM M s d.toNat t).2, 0)) := hide (by unfold putC; rw [if_pos ⟨hd, hp⟩])
      obtain ⟨k, rfl⟩ := Int.eq_ofNat_of_zero_le hd.1
      rw [Int.toNat_natCast] at HD
      have hk : k < M.n := by omega
      have hki : (k : Int) < (M.n : Int) := by omega
      have c0 : w.cell? ⟨P.b, 0, none⟩ = some (.slice (some ⟨P.g, 0, none⟩) M.n P.cg) := HIN.out.blk.cell 0
      have c4 : w.cell? ⟨P.g, k * 6 + 4, none⟩ = some (.int .i64 (s.use k : Int)) := HIN.out.cell hk (by omega)
      clear hd hp
      by_cases hu : s.use k = 0
      · have hb : ((s.use k : Int) == 0) = true := by simp [hu]
        rw [if_pos hu] at HD
        clear hu
        go_wp2
        go_ret2
        exact ⟨_, by rw [HD.out]; rfl, by rw [HD.out]; exact HIN.out, by rw [HD.out]; exact own_nil _ _ _ _, Fr.refl _ _⟩
      · have hb : ((s.use k : Int) == 0) = false := by simp [hu]
        rw [if_neg hu] at HD
        have HU := hide hu
        have c2 : w.cell? ⟨P.b, 2, none⟩ = some (.int .u64 (s.clk : Int)) := HIN.out.blk.cell 2
        have f2 := HIN.out.blk.frozen 2
        have HIN2 := hide (HIN.out.tick t)
        have hfm : FrM P w.heap.size w (w.setCell ⟨P.b, 2, none⟩ (uv t)) := (FrM.refl _ _ _).set (.inl rfl) _
        have hsz : (w.setCell ⟨P.b, 2, none⟩ (uv t)).heap.size = w.heap.size := by simp [World.setCell]
        clear hu
        go_wp2_with fail
        rw [show (Value.int .u64 (t : Int)) = uv t from rfl]
        clear c0 c4 c2 f2
        generalize w.setCell ⟨P.b, 2, none⟩ (uv t) = w2 at HIN2 hfm hsz ⊢
        refine (expire28_any HIN2.out HMO.out (HSO.out.tick htl) htl ht (by omega) (ops := []) (own_nil _ _ _ _) (by simp)).mono ?_
        rintro e w3 ⟨v, rfl, hin3, hso3, hown3, hfm3⟩
        have HPM : Hid (putM M s k t = expM M t (idleS M (useS (expM M t { s with clk := t } []).1 k ((expM M t { s with clk := t } []).1.use k - 1)) k t) (expM M t { s with clk := t } []).2) := hide rfl
        have HOL : Hid ((expM M t { s with clk := t } []).2.length ≤ 100) := hide (by
          have h1 := expK_len (M := M) t (M.n + 1) { s with clk := t } []
          have h2 := nAct_le M { s with clk := t }
          have h3 := HMO.out.n
          unfold expM
          simp at h1
          omega)
        have HUP : Hid (0 < (expM M t { s with clk := t } []).1.use k) := hide (by
          unfold expM
          rw [(expK_use t _ _ _).1]
          have := HU.out
          show 0 < s.use k
          omega)
        generalize expM M t { s with clk := t } [] = E at hin3 hso3 hown3 HPM HOL HUP
        obtain ⟨A3, c3, rfl, -, -, -⟩ := own_slice hown3
        have hfm03 := hfm.trans hfm3
        have c0 : w3.cell? ⟨P.b, 0, none⟩ = some (.slice (some ⟨P.g, 0, none⟩) M.n P.cg) := hin3.blk.cell 0
        have c4 : w3.cell? ⟨P.g, k * 6 + 4, none⟩ = some (.int .i64 (E.1.use k : Int)) := hin3.cell hk (by omega)
        have f4 := hin3.frozen (k * 6 + 4)
        have hue := hso3.use k
        obtain ⟨u, hue1⟩ : ∃ u : Nat, u = E.1.use k - 1 := ⟨_, rfl⟩
        have hwu : IntKind.i64.wrap ((E.1.use k : Int) - 1) = (u : Int) := by have := HUP.out; rw [IntWalk.i64_in _ (by omega)]; omega
        rw [← hue1] at HPM
        have HIN4 := hide (hin3.put (stvs_use P.S P.C M E.1 hk u) rfl)
        have HOWN4 := hide (own_fr hown3 ((Fr.refl [P.g] w3).set (p := ⟨P.g, k * 6 + 4, none⟩) (.inl (by simp)) (nv u)) (fun y hy hm => hin3.row_own hown3 (.inr rfl) y hy (List.mem_singleton.1 hm)))
        have hfm4 := hfm03.set (p := ⟨P.g, k * 6 + 4, none⟩) (.inr (.inl rfl)) (nv u)
        have HSO4 : Hid (SOk M (useS E.1 k u)) := hide (hso3.use_ (by omega))
        clear hin3 hown3 hso3 hue hue1
        go_upto_region 8 with (fail)
        rw [show (Value.int .i64 (u : Int)) = nv u from rfl]
        generalize w3.setCell ⟨P.g, k * 6 + 4, none⟩ (nv u) = w4 at HIN4 HOWN4 hfm4 ⊢
        clear c0 c4 f4 hwu
        generalize useS E.1 k u = s4 at HIN4 HSO4 HPM
        go_wp2_with fail
        refine (idle28_any HIN4.out HMO.out hk).mono ?_
        rintro e w5 ⟨rfl, hf5⟩
        have HIN5 := hide (HIN4.out.fr0 hf5)
        have HOWN5 := hide (own_fr HOWN4.out hf5 (fun _ _ => by simp))
        have hfm5 := hfm4.call hf5
        cases hid : idl M s4 k with
        | false =>
          have HE : Hid (idleS M s4 k t = s4) := hide (by unfold idleS; rw [if_neg (by rw [hid]; decide)])
          rw [HE.out] at HPM
          clear hid
          have hz5 := hfm5.size
          go_wp2_with fail
          refine (expire28_any HIN5.out HMO.out HSO4.out htl ht hz5 HOWN5.out HOL.out).mono ?_
          rintro e w6 ⟨v, rfl, hin6, -, hown6, hfm6⟩
          rw [← HPM.out] at hin6 hown6
          go_wp2
          go_ret2
          exact ⟨v, by rw [HD.out]; rfl, by rw [HD.out]; exact hin6, by rw [HD.out]; exact hown6, (hfm5.trans hfm6).two⟩
        | true =>
          have HE : Hid (idleS M s4 k t = { s4 with sin := setF s4.sin k t }) := hide (by unfold idleS; rw [if_pos hid])
          have c0 : w5.cell? ⟨P.b, 0, none⟩ = some (.slice (some ⟨P.g, 0, none⟩) M.n P.cg) := HIN5.out.blk.cell 0
          have c5 : w5.cell? ⟨P.g, k * 6 + 5, none⟩ = some (.int .u64 (s4.sin k : Int)) := HIN5.out.cell hk (by omega)
          have f5 := HIN5.out.frozen (k * 6 + 5)
          have HIN6 := hide (HIN5.out.put (stvs_sin P.S P.C M s4 hk t) rfl)
          rw [← HE.out] at HIN6
          have HOWN6 := hide (own_fr HOWN5.out ((Fr.refl [P.g] w5).set (p := ⟨P.g, k * 6 + 5, none⟩) (.inl (by simp)) (uv t)) (fun y hy hm => HIN5.out.row_own HOWN5.out (.inr rfl) y hy (List.mem_singleton.1 hm)))
          have hfm6 := hfm5.set (p := ⟨P.g, k * 6 + 5, none⟩) (.inr (.inl rfl)) (uv t)
          clear hid
          go_upto_region 10 with (fail)
          rw [show (Value.int .u64 (t : Int)) = uv t from rfl]
          generalize w5.setCell ⟨P.g, k * 6 + 5, none⟩ (uv t) = w6 at HIN6 HOWN6 hfm6 ⊢
          clear c0 c5 f5
          have hz6 := hfm6.size
          go_wp2_with fail
          refine (expire28_any HIN6.out HMO.out (HSO4.out.idle_ htl) htl ht hz6 HOWN6.out HOL.out).mono ?_
          rintro e w7 ⟨v, rfl, hin7, -, hown7, hfm7⟩
          rw [← HPM.out] at hin7 hown7
          go_wp2
          go_ret2
          exact ⟨v, by rw [HD.out]; rfl, by rw [HD.out]; exact hin7, by rw [HD.out]; exact hown7, (hfm6.trans hfm7).two⟩
    · rw [decide_eq_false hp]
      have HR : Hid (putC M s d t = (s, [], 1)) := hide (by unfold putC; rw [if_neg (fun h => hp h.2)])
      clear hp hd
      go_wp2
      go_ret2
      exact ⟨_, by rw [HR.out]; rfl, by rw [HR.out]; exact HIN.out, by rw [HR.out]; exact own_nil _ _ _ _, Fr.refl _ _⟩
  · rw [decide_eq_false hd]
    have HR : Hid (putC M s d t = (s, [], 1)) := hide (by unfold putC; rw [if_neg (fun h => hd h.1)])
    clear hd
    go_wp2
    go_ret2
    exact ⟨_, by rw [HR.out]; rfl, by rw [HR.out]; exact HIN.out, by rw [HR.out]; exact own_nil _ _ _ _, Fr.refl _ _⟩
end
end Go.Proofs.Ytdocdgghphhdpaa

/- Walks: required, Get. -/
namespace Go.Proofs.Ytdocdgghphhdpaa
open Go.RowKit

theorem bool_info28 : (Try.prog.info? 4).map (fun i => (i.zero, i.size, i.bytes)) = some (some (.bool false), 1, 1) := by kernel_rfl
section
variable {w : World} {P : ML} {M : RM} {s : RS}
/-- A row of marks. -/
def Mks (w : World) (g n : Nat) (r : Nat → Bool) : Prop := Blk w g 4 ((List.range n).map fun i => Value.bool (r i)).toArray
theorem Mks.get {g n : Nat} {r : Nat → Bool} (h : Mks w g n r) {i : Nat} (hi : i < n) : w.cell? ⟨g, i, none⟩ = some (.bool (r i)) := by
  rw [h.cell i]
  simp [hi]
theorem mks_set (r : Nat → Bool) {i n : Nat} (hi : i < n) (b : Bool) : ((List.range n).map fun i => Value.bool (r i)).toArray.setIfInBounds i (.bool b) = ((List.range n).map fun q => Value.bool (setF r i b q)).toArray := by
  rw [List.setIfInBounds_toArray]
  congr 1
  apply List.ext_getElem?
  intro t
  rw [List.getElem?_set, List.getElem?_map, List.getElem?_map]
  by_cases ht : t < n
  · rw [List.getElem?_range ht]
    by_cases e : i = t
    · subst e
      simp [setF, hi]
    · simp [e, setF, Ne.symm e]
  · rw [List.getElem?_eq_none (by simp; omega)]
    simp
    omega
theorem Mks.set {g n : Nat} {r : Nat → Bool} (h : Mks w g n r) {i : Nat} (hi : i < n) (b : Bool) : Mks (w.setCell ⟨g, i, none⟩ (.bool b)) g n (setF r i b) := by
  have h2 := Blk.set_ h i (.bool b)
  unfold Mks
  rw [← mks_set r hi b]
  exact h2
theorem Mks.frozen {g n : Nat} {r : Nat → Bool} (h : Mks w g n r) (i : Nat) : w.frozen? ⟨g, i, none⟩ = false := Blk.frozen h i
def ReqRet (w : World) (n : Nat) (r : Nat → Bool) (e : Ending) (w' : World) : Prop := ∃ g c, e = .returned (.slice (some ⟨g, 0, none⟩) n c) ∧ Mks w' g n r ∧ w.heap.size ≤ g ∧ Fr [] w w'
def RqRel (w1 : World) (g : Nat) (M : RM) (r0 : Nat → Bool) (m : Nat) (i : Value) (wr : World) : Prop :=
  ∃ q : Nat, q ≤ M.ord.length ∧ i = .int .i64 ((q : Int) - 1) ∧ Mks wr g M.n ((M.ord.drop q).reverse.foldl (reqStep M) r0) ∧ Fr [g] w1 wr ∧ m = q
def RqIn (w1 : World) (g : Nat) (M : RM) (l : List Nat) (r : Nat → Bool) (m : Nat) (i : Value) (wr : World) : Prop :=
  ∃ j : Nat, j ≤ l.length ∧ i = .int .i64 (j : Int) ∧ Mks wr g M.n ((l.take j).foldl (fun r x => setF r x true) r) ∧ Fr [g] w1 wr ∧ m = l.length - j
set_option maxHeartbeats 8000000 in
theorem required28_any (h : MgIn w P M s) (hM : MOk M) (ht : P.top ≤ w.heap.size) {d : Nat} (hd : d < M.n) :
    Calls Try.prog 119 #[.pointer (some ⟨P.b, 0, none⟩), .int .i64 (d : Int)] w (ReqRet w M.n (reqM M d)) := by
  have hn := hM.n
  have hol := hM.ol
  have hol64 : M.ord.length ≤ 64 := by omega
  clear hol
  have HIN := hide h
  have HMO := hide hM
  have c0 : w.cell? ⟨P.b, 0, none⟩ = some (.slice (some ⟨P.g, 0, none⟩) M.n P.cg) := h.blk.cell 0
  have hmk := run_make_one (P := Try.prog) 166 4 (.bool false) 1 Try.underlying166 bool_info28 rfl M.n M.n (Nat.le_refl _) (by omega) (by omega) w
  have hdi : (d : Int) < (M.n : Int) := by omega
  have hb0 : Mks (w.alloc (.cells (Array.replicate M.n (.bool false)) 4)) w.heap.size M.n (fun _ => false) := by
    have := Blk.new w 4 (Array.replicate M.n (.bool false))
    unfold Mks
    rw [show ((List.range M.n).map fun _ => Value.bool false).toArray = Array.replicate M.n (.bool false) by
      apply Array.ext
      · simp
      · intro i h1 h2; simp]
    exact this
  have hcd := hb0.get hd
  have hfd := hb0.frozen d
  have HB1 : Hid (Mks (w.alloc (.cells ((Array.replicate M.n (.bool false)).setIfInBounds d (.bool true)) 4)) w.heap.size M.n (setF (fun _ => false) d true)) := hide (by
    have h1 := Blk.new w 4 ((Array.replicate M.n (.bool false)).setIfInBounds d (.bool true))
    unfold Mks
    rw [← mks_set (fun _ => false) hd true, show ((List.range M.n).map fun _ => Value.bool false).toArray = Array.replicate M.n (.bool false) by
      apply Array.ext
      · simp
      · intro i h1 h2; simp]
    exact h1)
  have hfw1 : Fr [] w (w.alloc (.cells ((Array.replicate M.n (.bool false)).setIfInBounds d (.bool true)) 4)) := (Fr.refl _ _).alloc _
  have HIN1 := hide (HIN.out.fr0 hfw1)
  clear h hM hb0
  go_enter Try.func119, Try.ntmps119
  go_upto_region 3 with (fail)
  generalize w.alloc (.cells ((Array.replicate M.n (.bool false)).setIfInBounds d (.bool true)) 4) = w1 at HB1 hfw1 HIN1 ⊢
  obtain ⟨g, hg⟩ : ∃ g, g = w.heap.size := ⟨_, rfl⟩
  rw [← hg] at HB1 ⊢
  have htg : P.top ≤ g := by omega
  have HG := hide hg
  clear hg c0 hmk hcd hfd HIN
  have HRM : Hid (reqM M d = M.ord.reverse.foldl (reqStep M) (setF (fun _ => false) d true)) := hide rfl
  generalize setF (fun _ => false) d true = r0 at HB1 HRM
  have c1 : w1.cell? ⟨P.b, 1, none⟩ = some (.slice P.Ao M.ord.length P.co) := HIN1.out.blk.cell 1
  go_wp2
  clear c1
  go_loopg [6] M.ord.length (fun m i wr => RqRel w1 g M r0 m i wr)
  case atStart => exact ⟨M.ord.length, by omega, by rfl, by rw [List.drop_of_length_le (by omega)]; exact HB1.out, Fr.refl _ _, rfl⟩
  case round =>
    obtain ⟨q, hq, rfl, hmk, hfr, hmm⟩ := hrel
    have HM := hide hmm
    have HK := hide hmk
    have HINr := hide (HIN1.out.fr hfr (fun i hi => by rw [List.mem_singleton.1 hi]; exact htg))
    clear hmm hmk
    by_cases hlt : 0 < q
    · obtain ⟨x, hx⟩ : ∃ x, M.ord[q - 1]? = some x := ⟨_, List.getElem?_eq_getElem (by omega)⟩
      obtain ⟨r, hr⟩ : ∃ r, r = q - 1 := ⟨_, rfl⟩
      rw [← hr] at hx
      have hxn : x < M.n := HMO.out.ord x (List.mem_of_getElem? hx)
      obtain ⟨oa, oo, eA, c1⟩ := HINr.out.ord.1.at_ (i := r) (u := nv x) (by rw [List.getElem?_map, hx]; rfl)
      have cA : wr.cell? ⟨P.b, 1, none⟩ = some (.slice (some ⟨oa, oo, none⟩) M.ord.length P.co) := by rw [← eA]; exact HINr.out.blk.cell 1
      have hqr : (q : Int) - 1 = (r : Int) := by omega
      rw [hqr]
      have hrl : (r : Int) < (M.ord.length : Int) := by omega
      have hr0 : (0 : Int) ≤ (r : Int) := by omega
      have hxi : (x : Int) < (M.n : Int) := by omega
      have HTS : Hid ((M.ord.drop r).reverse.foldl (reqStep M) r0 = reqStep M ((M.ord.drop q).reverse.foldl (reqStep M) r0) x) := hide (by
        obtain ⟨h1, h2⟩ := List.getElem?_eq_some_iff.1 hx
        rw [List.drop_eq_getElem_cons h1, h2, show r + 1 = q by omega, List.reverse_cons, List.foldl_append]
        rfl)
      have HRR := hide hr
      generalize (M.ord.drop q).reverse.foldl (reqStep M) r0 = rq at HK HTS
      have cx := HK.out.get hxn
      clear hx hqr hr eA
      cases hrx : rq x with
      | false =>
        rw [hrx] at cx
        have HE : Hid (reqStep M rq x = rq) := hide (by unfold reqStep; rw [if_neg (by rw [hrx]; decide)])
        clear hrx
        go_wp2
        go_roundg r
        case measure => rw [HM.out, HRR.out]; omega
        case rel => exact ⟨r, by omega, by go_num, by rw [HTS.out, HE.out]; exact HK.out, hfr, rfl⟩
      | true =>
        rw [hrx] at cx
        have HE : Hid (reqStep M rq x = (supL M.L x).foldl (fun r x => setF r x true) rq) := hide (by unfold reqStep; rw [if_pos hrx])
        obtain ⟨As, cs, es, hrs, hls⟩ := HINr.out.sup x hxn
        have c0 : wr.cell? ⟨P.b, 0, none⟩ = some (.slice (some ⟨P.g, 0, none⟩) M.n P.cg) := HINr.out.blk.cell 0
        have d0 : wr.cell? ⟨P.g, x * 6, none⟩ = some (.slice As (supL M.L x).length cs) := by rw [← es]; exact HINr.out.cell (j := 0) hxn (by omega)
        have HSL : Hid (∀ y ∈ supL M.L x, y < M.n) := hide (fun y hy => (HMO.out.L _ (mem_supL.1 hy)).2)
        have hsl : (supL M.L x).length ≤ 1024 := Nat.le_trans (supL_len _ _) HMO.out.len
        have HROW := hide hrs
        have HLOW : Hid (Off As [g]) := hide (fun ad e hm => by
          have := (hls ad e).2.2
          have := List.mem_singleton.1 hm
          omega)
        obtain ⟨wq, hwq⟩ : ∃ wq, wq = wr := ⟨_, rfl⟩
        subst hwq
        generalize supL M.L x = l0 at HE HSL hsl HROW d0
        clear hrx es hrs hls
        go_wp2
        clear d0 c0 cA c1 cx
        go_loopg [49] l0.length (fun m i wr => RqIn wq g M l0 rq m i wr)
        case atStart => exact ⟨0, by omega, rfl, HK.out, Fr.refl _ _, rfl⟩
        case round =>
          obtain ⟨j, hj, rfl, hmk, hfr2, hmm⟩ := hrel
          have HM2 := hide hmm
          have HK2 := hide hmk
          clear hmm hmk
          by_cases hlt2 : j < l0.length
          · obtain ⟨y, hy⟩ : ∃ y, l0[j]? = some y := ⟨_, List.getElem?_eq_getElem hlt2⟩
            have hyn : y < M.n := HSL.out y (List.mem_of_getElem? hy)
            obtain ⟨ob, oo', rfl, q1⟩ := (HROW.out.fr hfr2 HLOW.out).at_ (i := j) (u := nv y) (by rw [List.getElem?_map, hy]; rfl)
            have HTK : Hid ((l0.take (j + 1)).foldl (fun r x => setF r x true) rq = setF ((l0.take j).foldl (fun r x => setF r x true) rq) y true) := hide (by
              obtain ⟨h1, h2⟩ := List.getElem?_eq_some_iff.1 hy
              rw [List.take_succ_eq_append_getElem h1, h2, List.foldl_append]
              rfl)
            have hjl : (j : Int) < (l0.length : Int) := by omega
            have hyi : (y : Int) < (M.n : Int) := by omega
            generalize (l0.take j).foldl (fun r x => setF r x true) rq = rj at HK2 HTK
            have cy := HK2.out.get hyn
            have fy := HK2.out.frozen y
            have HK3 := hide (HK2.out.set hyn true)
            clear hy
            go_wp2
            go_roundg (l0.length - (j + 1))
            case measure => rw [HM2.out]; omega
            case rel => exact ⟨j + 1, by omega, by go_num, by rw [HTK.out]; exact HK3.out, hfr2.set (.inl (by simp)) _, rfl⟩
          · have hjl : ¬ (j : Int) < (l0.length : Int) := by omega
            rw [List.take_of_length_le (by omega)] at HK2
            go_wp2
            go_roundg r
            case measure => rw [HM.out, HRR.out]; omega
            case rel => exact ⟨r, by omega, by go_num, by rw [HTS.out, HE.out]; exact HK2.out, hfr.trans hfr2, rfl⟩
    · obtain rfl : q = 0 := by omega
      rw [List.drop_zero] at HK
      go_wp2
      go_ret
      exact ⟨g, _, rfl, by rw [HRM.out]; exact HK.out, by rw [HG.out]; exact Nat.le_refl _, hfw1.step hfr (fun i hi => .inr (by rw [List.mem_singleton.1 hi, HG.out]; exact Nat.le_refl _))⟩
end
end Go.Proofs.Ytdocdgghphhdpaa

