/- The law ResumeScheduleIsValid, walked. -/
import Derived.Test.YtinengemeppefaaSchL0
namespace Go.Proofs.Ytinengemeppefaa
open Go.RowKit

theorem Case31.ver {N W : Nat} {L : List (Nat × Nat)} {u : List Nat} (h : Case31 N W L u) : verM (N : Int) (ofNs L) u (W : Int) ((sched N L (durF u) W).map toR) = 0 := by
  have hlt := h.done.inv.lt
  have hnd := h.done.inv.nodup
  have hwk := h.done.inv.worker
  have hdp := h.done.inv.deps
  have hlen := h.done.len
  rw [← h.done.eq] at hlt hnd hwk hdp
  refine verM_ok h.chk ⟨by simpa using hlen, fun x hx => ?_, ?_⟩ ?_ (fun q hq => ?_)
  · obtain ⟨y, hy, rfl⟩ := List.mem_map.1 hx
    have h1 := hlt y hy
    have h2 := h.done.time hy
    unfold OkSlot toR
    simp only
    rw [Int.toNat_natCast]
    omega
  · rw [List.map_map]
    unfold List.Nodup at hnd ⊢
    rw [List.pairwise_map] at hnd ⊢
    exact hnd.imp (fun {a b} hne e => hne (by simp only [toR, Function.comp] at e; omega))
  · unfold NoClash
    rw [List.pairwise_map]
    refine hwk.imp (fun {a b} hw hc => ?_)
    have h1 := hc.1
    have h2 := hc.2.1
    unfold toR at h1 h2
    simp only at h1 h2
    have := hw (by omega)
    omega
  · obtain ⟨q', hq', rfl⟩ := List.mem_map.1 hq
    intro x hx y hy e1 e2
    obtain ⟨x', hx', rfl⟩ := List.mem_map.1 hx
    obtain ⟨y', hy', rfl⟩ := List.mem_map.1 hy
    unfold toR ofN at e1 e2
    simp only at e1 e2
    obtain ⟨z, hz, e3, h3⟩ := hdp x' hx' q' hq' (by omega)
    have hzy : z.e = y'.e := by
      rw [← h.done.end_ hz, ← h.done.end_ hy', e3]
      congr 1
      omega
    unfold toR
    simp only
    omega
def IvRel (w4 : World) (N m : Nat) (i : Value) (wr : World) : Prop := ∃ k : Nat, k ≤ N ∧ i = .int .i64 k ∧ Fr [] w4 wr ∧ m = N - k
def IvRel2 (w4 : World) (S : List Slt) (s N m : Nat) (v i : Value) (wr : World) : Prop := ∃ j : Nat, j ≤ N ∧ v = .bool (decide (s = 0 ∨ ∃ y ∈ S.take j, y.e = s)) ∧ i = .int .i64 j ∧ Fr [] w4 wr ∧ m = N - j
set_option maxHeartbeats 8000000 in
set_option maxRecDepth 100000 in
theorem isValid_walk (n : Int) (A B : Option Addr) (cp cq : Nat) (raw : List (Int × Int)) (d : List Nat) (workers : Int) (w : World) (hr : Row w A (pcs raw)) (hm : raw.length ≤ maxLen) (hd : Row w B (d.map uv)) (hdm : d.length ≤ maxLen) :
    Calls Try.prog 4 #[.int .i64 n, .slice A raw.length cp, .slice B d.length cq, .int .i64 workers] w fun e w' => e = .returned (.bool true) ∧ Fr [] w w' := by
  unfold maxLen at hm
  have HR := hide hr
  have HD := hide hd
  clear hr hd
  by_cases h40 : 40 < raw.length
  · have hb : decide ((40 : Int) < (raw.length : Int)) = true := by simp; omega
    go_enter Try.func4, Try.ntmps4
    go_wp2_with fail
    refine (awake31_any w).mono ?_
    rintro e w1 ⟨rfl, hfr⟩
    go_wp2
    go_ret
    exact ⟨rfl, hfr⟩
  · have hb : decide ((40 : Int) < (raw.length : Int)) = false := by simp; omega
    have h40' : raw.length ≤ 40 := by omega
    clear h40 hm
    go_enter Try.func4, Try.ntmps4
    go_wp2_with fail
    refine (graph_any n A cp raw true w HR.out (by omega)).mono ?_
    rintro e w1 ⟨v1, rfl, hown1, hf1⟩
    obtain ⟨A1, c1, rfl, -, hrow1, -⟩ := own_slice hown1
    have hgok := graphM_ok n raw true
    have hN := gNodes_lt n
    generalize graphM n raw true = L at hgok hrow1 ⊢
    generalize gNodes n = N at hN hgok ⊢
    generalize umod n 13 = sh at hgok
    have HLL := hide (ofNs_length L)
    have HG := hide hrow1
    have HGO := hide hgok
    have hgl := hgok.len
    clear hrow1 hown1 hgok
    go_wp2_with fail
    refine (mod_any workers 5 _ (by omega) (by omega)).mono ?_
    rintro e w2 ⟨rfl, rfl⟩
    have hu5 := umod_lt workers (n := 5) (by omega)
    obtain ⟨V, hV⟩ : ∃ V, V = 1 + umod workers 5 := ⟨_, rfl⟩
    have hVi : (1 : Int) + (umod workers 5 : Int) = (V : Int) := by omega
    have hV5 : 1 ≤ V ∧ V ≤ 5 := by omega
    generalize umod workers 5 = um at hVi hu5 ⊢
    clear hV
    go_wp2_with fail
    refine (durations_any N B cq d w1 (HD.out.fr0 hf1) (by omega) hdm).mono ?_
    rintro e w2 ⟨v2, rfl, hown2, hf2⟩
    obtain ⟨A2, c2, rfl, -, hrow2, -⟩ := own_slice hown2
    have hul := durM_length N d
    have hcase := case31 (W := V) HGO.out (by omega) (by omega) hul (fun x hx => Nat.le_trans (durM_le hx) (by decide))
    have hu11 : ∀ x ∈ durM N d, x ≤ 11 := fun x hx => durM_le hx
    generalize durM N d = u at hul hcase hu11 hrow2
    have HUL := hide hul
    have HU := hide hrow2
    have HC := hide hcase
    have HU11 := hide hu11
    have HG2 := hide (HG.out.fr0 hf2)
    have hsch := hcase.sch
    clear hrow2 hown2 hcase hu11 HG hul
    have hq := schedule31_any (N : Int) (V : Int) A1 A2 c1 c2 (ofNs L) u w2 HG2.out HU.out (by have := HLL.out; omega)
    rw [HLL.out, HUL.out, hsch] at hq
    clear hsch
    go_wp2_with fail
    refine hq.mono ?_
    clear hq
    rintro e w3 ⟨v3, rfl, hown3, hf3⟩
    obtain ⟨A3, c3, rfl, hcap3, hrow3⟩ := own_slice' hown3
    have HS3 := hide hrow3
    have HG3 := hide (HG2.out.fr0 hf3)
    have HU3 := hide (HU.out.fr0 hf3)
    have hw3 := (hf1.call hf2).call hf3
    have HSLEN := hide HC.out.done.len
    have HCAP := hide hcap3
    clear hrow3 hown3 HG2 HU hf2 hf3 hcap3
    have hq := verify31_any (N : Int) (V : Int) A1 A2 A3 c1 c2 c3 (ofNs L) u ((sched N L (durF u) V).map toR) w3 HG3.out HU3.out (by rw [rcells_toR]; exact HS3.out) (by have := HLL.out; omega) (by have := HSLEN.out; simp; omega) (by simpa using HCAP.out) (fun x hx => by
      obtain ⟨y, hy, rfl⟩ := List.mem_map.1 hx
      have := (HC.out.time_le HU11.out).2.2 y hy
      unfold RFits toR
      simp only
      omega)
    rw [HLL.out, HUL.out, List.length_map, HC.out.ver] at hq
    have hbeg := HC.out.done.inv.begins
    have hord := HC.out.done.inv.order
    rw [← HC.out.done.eq] at hbeg hord
    generalize sched N L (durF u) V = S at HS3 HSLEN HCAP hbeg hord hq ⊢
    have HBEG := hide hbeg
    have HORD := hide hord
    have hne1 : ((S.length : Int) != (N : Int)) = false := by simp [HSLEN.out]
    clear hbeg hord hVi
    go_wp2_with fail
    refine hq.mono ?_
    clear hq
    rintro e w4 ⟨rfl, hf4⟩
    have HS4 := hide (HS3.out.fr0 hf4)
    have hw4 := hw3.call hf4
    clear hf4 HS3 HU3 HG3
    go_wp2
    go_loopg [15] N (fun m i wr => IvRel w4 N m i wr)
    case atStart => exact ⟨0, by omega, rfl, Fr.refl _ _, rfl⟩
    case round =>
      obtain ⟨k, hk, rfl, hfr, hmm⟩ := hrel
      have HM := hide hmm
      clear hmm
      by_cases hlt : k < N
      · obtain ⟨x, hx⟩ : ∃ x, S[k]? = some x := ⟨_, List.getElem?_eq_getElem (by have := HSLEN.out; omega)⟩
        obtain ⟨ob, oo, e, -, -, x2, -⟩ := (HS4.out.fr0 hfr).slt hx
        subst e
        have HX := hide hx
        have hkl : (k : Int) < (N : Int) := by omega
        have hk2 : (k : Int) < (S.length : Int) := by rw [HSLEN.out]; omega
        have HB := hide (HBEG.out x (List.mem_of_getElem? hx))
        clear hx
        go_wp2
        go_loopg [16, 17] N (fun m v i wq => IvRel2 wr S x.s N m v i wq)
        case atStart => exact ⟨0, by omega, by congr 1; rw [Bool.eq_iff_iff]; simp, rfl, Fr.refl _ _, rfl⟩
        case round =>
          obtain ⟨j, hj, rfl, rfl, hfj, hmm⟩ := hrel
          have HM2 := hide hmm
          clear hmm
          obtain ⟨ob', oo', e, -, -, y2, -⟩ := ((HS4.out.fr0 hfr).fr0 hfj).slt HX.out
          injection e with e
          injection e with e1 e2
          subst e1 e2
          clear x2
          by_cases hlt2 : j < N
          · obtain ⟨y, hy⟩ : ∃ y, S[j]? = some y := ⟨_, List.getElem?_eq_getElem (by have := HSLEN.out; omega)⟩
            obtain ⟨ob', oo', e, -, -, -, y3⟩ := ((HS4.out.fr0 hfr).fr0 hfj).slt hy
            injection e with e
            injection e with e1 e2
            subst e1 e2
            have hjl : (j : Int) < (N : Int) := by omega
            have hj2 : (j : Int) < (S.length : Int) := by rw [HSLEN.out]; omega
            have HTK : Hid ((x.s = 0 ∨ ∃ z ∈ S.take (j + 1), z.e = x.s) ↔ (x.s = 0 ∨ ∃ z ∈ S.take j, z.e = x.s) ∨ y.e = x.s) := hide (by
              rw [take_succ_some hy]
              constructor
              · rintro (h | ⟨z, hz, h⟩)
                · exact .inl (.inl h)
                · rcases List.mem_append.1 hz with h' | h'
                  · exact .inl (.inr ⟨z, h', h⟩)
                  · rw [List.mem_singleton.1 h'] at h; exact .inr h
              · rintro ((h | ⟨z, hz, h⟩) | h)
                · exact .inl h
                · exact .inr ⟨z, List.mem_append_left _ hz, h⟩
                · exact .inr ⟨y, by simp, h⟩)
            clear hy
            by_cases hp : x.s = 0 ∨ ∃ z ∈ S.take j, z.e = x.s
            · rw [decide_eq_true hp]
              have HQ := hide (decide_eq_true (HTK.out.2 (.inl hp)))
              clear hp
              go_wp2
              go_quiet (fail)
              go_wp2
              go_roundg (N - (j + 1))
              case measure => rw [HM2.out]; omega
              case rel => exact ⟨j + 1, by omega, by rw [HQ.out], by go_num, hfj.drewN _, rfl⟩
            · rw [decide_eq_false hp]
              by_cases he : y.e = x.s
              · have HQ := hide (decide_eq_true (HTK.out.2 (.inr he)))
                have eb : ((y.e : Int) == (x.s : Int)) = true := by simp [he]
                clear hp he
                go_wp2
                go_quiet (fail)
                go_wp2
                go_roundg (N - (j + 1))
                case measure => rw [HM2.out]; omega
                case rel => exact ⟨j + 1, by omega, by rw [HQ.out], by go_num, hfj.drewN _, rfl⟩
              · have HQ := hide (decide_eq_false (fun h => (HTK.out.1 h).elim hp he))
                have eb : ((y.e : Int) == (x.s : Int)) = false := by simp; omega
                clear hp he
                go_wp2
                go_quiet (fail)
                go_wp2
                go_roundg (N - (j + 1))
                case measure => rw [HM2.out]; omega
                case rel => exact ⟨j + 1, by omega, by rw [HQ.out], by go_num, hfj.drewN _, rfl⟩
          · have hjl : ¬ (j : Int) < (N : Int) := by omega
            rw [List.take_of_length_le (by have := HSLEN.out; omega), decide_eq_true HB.out]
            by_cases hk0 : k = 0
            · subst hk0
              go_wp2
              go_quiet (fail)
              go_wp2
              go_roundg (N - (0 + 1))
              case measure => rw [HM.out]; omega
              case rel => exact ⟨1, by omega, by go_num, (hfr.call hfj).drewN _, rfl⟩
            · obtain ⟨z, hz⟩ : ∃ z, S[k - 1]? = some z := ⟨_, List.getElem?_eq_getElem (by have := HSLEN.out; omega)⟩
              obtain ⟨ob', oo', e, -, -, z2, -⟩ := ((HS4.out.fr0 hfr).fr0 hfj).slt hz
              injection e with e
              injection e with e1 e2
              subst e1 e2
              have hle : z.s ≤ x.s := by
                have h1 := List.pairwise_iff_getElem.1 HORD.out (k - 1) k (by have := HSLEN.out; omega) (by have := HSLEN.out; omega) (by omega)
                obtain ⟨_, e1⟩ := List.getElem?_eq_some_iff.1 hz
                obtain ⟨_, e2⟩ := List.getElem?_eq_some_iff.1 HX.out
                rw [e1, e2] at h1
                exact h1
              have hk1 : k - 1 = ((k : Int) - 1).toNat := by omega
              have z2' := z2
              rw [hk1] at z2'
              have hki : (0 : Int) ≤ (k : Int) - 1 := by omega
              have hki2 : (k : Int) - 1 < (S.length : Int) := by rw [HSLEN.out]; omega
              have hkp : decide ((0 : Int) < (k : Int)) = true := by simp; omega
              have hkq : decide (0 < k) = true := by simp; omega
              have hkp' : (0 : Int) < (k : Int) := by omega
              have hlei : ¬ (x.s : Int) < (z.s : Int) := by omega
              clear hz hk1 hle hk0
              go_wp2
              go_quiet (fail)
              go_wp2
              go_roundg (N - (k + 1))
              case measure => rw [HM.out]; omega
              case rel => exact ⟨k + 1, by omega, by go_num, (hfr.call hfj).drewN _, rfl⟩
      · have hkl : ¬ (k : Int) < (N : Int) := by omega
        go_wp2_with fail
        refine (awake31_any _).mono ?_
        rintro e w9 ⟨rfl, hf9⟩
        go_wp2
        go_ret
        exact ⟨rfl, (hw4.call hfr).call hf9⟩
end Go.Proofs.Ytinengemeppefaa
