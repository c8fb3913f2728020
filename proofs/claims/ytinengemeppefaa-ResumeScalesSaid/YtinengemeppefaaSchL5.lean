/- The law ResumeScales, walked. -/
import Derived.Test.YtinengemeppefaaSchL0
import Derived.Test.YtinengemeppefaaSchM3
namespace Go.Proofs.Ytinengemeppefaa
open Go.RowKit

theorem durF_map (u : List Nat) (k : Nat) : durF (u.map (k * ·)) = fun d => k * durF u d := by
  funext d
  unfold durF
  rw [List.getD_eq_getElem?_getD, List.getD_eq_getElem?_getD, List.getElem?_map]
  cases u[d]? <;> simp
theorem range_map_durF (u : List Nat) (k : Nat) : (List.range u.length).map (fun i => k * durF u i) = u.map (k * ·) := by
  apply List.ext_getElem (by simp)
  intro i h1 h2
  simp at h1
  simp [durF, List.getD_eq_getElem?_getD, h1]
def ScRel1 (w2 : World) (g N K : Nat) (u : List Nat) (m : Nat) (i : Value) (wr : World) : Prop := ∃ k : Nat, k ≤ N ∧ i = .int .i64 k ∧ FA wr g 33 uv N (fun i => if i < k then K * durF u i else 0) ∧ Fr [] w2 wr ∧ m = N - k
def ScRel2 (w5 : World) (N m : Nat) (i : Value) (wr : World) : Prop := ∃ k : Nat, k ≤ N ∧ i = .int .i64 k ∧ Fr [] w5 wr ∧ m = N - k
theorem FA.own' {α : Type} {w : World} {g n : Nat} {t : TypeId} {e : α → Value} {f : Nat → α} (h : FA w g t e n f) : Row w (some ⟨g, 0, none⟩) (((List.range n).map f).map e) := h.row
set_option maxHeartbeats 8000000 in
set_option maxRecDepth 100000 in
theorem scales_walk (n : Int) (A B : Option Addr) (cp cq : Nat) (raw : List (Int × Int)) (d : List Nat) (workers : Int) (fac : Nat) (hfac : fac ≤ 65535) (w : World) (hr : Row w A (pcs raw)) (hm : raw.length ≤ maxLen) (hd : Row w B (d.map uv)) (hdm : d.length ≤ maxLen) :
    Calls Try.prog 10 #[.int .i64 n, .slice A raw.length cp, .slice B d.length cq, .int .i64 workers, .int .u16 (fac : Int)] w fun e w' => e = .returned (.bool true) ∧ Fr [] w w' := by
  unfold maxLen at hm
  have HR := hide hr
  have HD := hide hd
  clear hr hd
  by_cases h40 : 40 < raw.length
  · have hb : decide ((40 : Int) < (raw.length : Int)) = true := by simp; omega
    go_enter Try.func10, Try.ntmps10
    go_wp2_with fail
    refine (awake31_any w).mono ?_
    rintro e w1 ⟨rfl, hfr⟩
    go_wp2
    go_ret
    exact ⟨rfl, hfr⟩
  · have hb : decide ((40 : Int) < (raw.length : Int)) = false := by simp; omega
    have h40' : raw.length ≤ 40 := by omega
    clear h40 hm
    go_enter Try.func10, Try.ntmps10
    go_wp2_with fail
    refine (graph_any n A cp raw true w HR.out (by omega)).mono ?_
    rintro e w1 ⟨v1, rfl, hown1, hf1⟩
    obtain ⟨A1, c1, rfl, -, hrow1, -⟩ := own_slice hown1
    have hgok := graphM_ok n raw true
    have hN := gNodes_lt n
    generalize graphM n raw true = L at hgok hrow1 ⊢
    generalize gNodes n = N at hN hgok ⊢
    generalize umod n 13 = sh at hgok
    have HLL := hide (ofNs_length L)
    have HG := hide hrow1
    have HGO := hide hgok
    have hgl := hgok.len
    clear hrow1 hown1 hgok
    go_wp2_with fail
    refine (mod_any workers 5 _ (by omega) (by omega)).mono ?_
    rintro e w2 ⟨rfl, rfl⟩
    have hu5 := umod_lt workers (n := 5) (by omega)
    obtain ⟨V, hV⟩ : ∃ V, V = 1 + umod workers 5 := ⟨_, rfl⟩
    have hVi : (1 : Int) + (umod workers 5 : Int) = (V : Int) := by omega
    have hV5 : 1 ≤ V ∧ V ≤ 5 := by omega
    generalize umod workers 5 = um at hVi hu5 ⊢
    clear hV
    obtain ⟨K, hK⟩ : ∃ K, K = 1 + fac := ⟨_, rfl⟩
    have hKi : (1 : Int) + (fac : Int) = (K : Int) := by omega
    have hKb : K ≤ 65536 := by omega
    have hK0 : 0 < K := by omega
    have hfi : (fac : Int) ≤ 65535 := by omega
    clear hK
    go_wp2_with fail
    refine (durations_any N B cq d w1 (HD.out.fr0 hf1) (by omega) hdm).mono ?_
    rintro e w2 ⟨v2, rfl, hown2, hf2⟩
    obtain ⟨A2, c2, rfl, -, hrow2, -⟩ := own_slice hown2
    have hul := durM_length N d
    have hcase := case31 (W := V) HGO.out (by omega) (by omega) hul (fun x hx => Nat.le_trans (durM_le hx) (by decide))
    have hu11 : ∀ x ∈ durM N d, x ≤ 11 := fun x hx => durM_le hx
    generalize durM N d = u at hul hcase hu11 hrow2
    have hcase2 := case31 (W := V) (u := u.map (K * ·)) HGO.out (by omega) (by omega) (by simpa using hul) (fun x hx => by
      obtain ⟨y, hy, rfl⟩ := List.mem_map.1 hx
      have h1 := hu11 y hy
      have h2 : K * y ≤ 65536 * 11 := Nat.mul_le_mul hKb h1
      unfold maxD
      omega)
    have HUL := hide hul
    have HU := hide hrow2
    have HC := hide hcase
    have HC2 := hide hcase2
    have HU11 := hide hu11
    have HG2 := hide (HG.out.fr0 hf2)
    have hw2 := hf1.call hf2
    have hsz2 := hf2.size
    have hsch := hcase.sch
    have HSC := hide (sc_sched (N := N) (L := L) (D := durF u) hK0 (W := V))
    have hmk := make_u64s N N (Nat.le_refl _) (by omega)
    have hnew : FA (w2.alloc (.cells (Array.replicate N (.int .u64 0)) 33)) w2.heap.size 33 uv N (fun _ => 0) := FA.new w2 33 uv 0 N
    have hfr0 : Fr [] w2 (w2.alloc (.cells (Array.replicate N (.int .u64 0)) 33)) := (Fr.refl _ _).alloc _
    have hAlow : ∀ ad, A2 = some ad → 0 < u.length → ad.block < w2.heap.size := fun ad e h0 => by
      obtain ⟨ob, oo, e2, h1⟩ := HU.out.lt (by simpa using h0)
      rw [e] at e2
      injection e2 with e2
      rw [e2]; exact h1
    have HAL := hide hAlow
    clear hrow2 hown2 hcase hcase2 hu11 HG hul hf2 hAlow hVi hKi
    go_wp2
    generalize (w2.alloc (.cells (Array.replicate N (.int .u64 0)) 33)) = w3 at hnew hfr0 ⊢
    obtain ⟨g, hg⟩ : ∃ g, g = w2.heap.size := ⟨_, rfl⟩
    have hgw : w2.heap.size ≤ g := by omega
    rw [← hg] at hnew ⊢
    have HGG := hide hg
    clear hg hmk
    go_loopg [17] N (fun m i wr => ScRel1 w2 g N K u m i wr)
    case atStart => exact ⟨0, by omega, rfl, hnew.congr (fun i _ => by simp), hfr0, rfl⟩
    case round =>
      clear hnew hfr0
      obtain ⟨k, hk, rfl, hfa, hfr, hmm⟩ := hrel
      have HM := hide hmm
      have HFA := hide hfa
      clear hmm hfa
      by_cases hlt : k < N
      · obtain ⟨x, hx⟩ : ∃ x, u[k]? = some x := ⟨_, List.getElem?_eq_getElem (by have := HUL.out; omega)⟩
        obtain ⟨ob, oo, e, e1⟩ := (HU.out.fr0 hfr).uint hx
        subst e
        have hkl : (k : Int) < (N : Int) := by omega
        have hxl := HU11.out x (List.mem_of_getElem? hx)
        have hc0 := HFA.out.cell hlt
        have hc1 := HFA.out.frozen k
        have HDX := hide (durF_get hx)
        have hKx : K * x ≤ 65536 * 11 := Nat.mul_le_mul hKb hxl
        have hp0 : 0 ≤ (K : Int) * (x : Int) := by rw [← Int.natCast_mul]; omega
        have hp1 : (K : Int) * (x : Int) ≤ 720896 := by rw [← Int.natCast_mul]; omega
        clear hx hKx
        go_wp2
        go_roundg (N - (k + 1))
        case measure => rw [HM.out]; omega
        case rel =>
          refine ⟨k + 1, by omega, by go_num, ?_, hfr.set (.inr hgw) _, rfl⟩
          have h1 := HFA.out.set_ k (K * x)
          rw [show uv (K * x) = .int .u64 ((K : Int) * (x : Int)) by simp [uv]] at h1
          refine FA.congr h1 (fun j _ => ?_)
          by_cases e : j = k
          · rw [if_pos e, if_pos (by omega), e, HDX.out]
          · rw [if_neg e]
            by_cases e2 : j < k
            · rw [if_pos e2, if_pos (by omega)]
            · rw [if_neg e2, if_neg (by omega)]
      · have hkl : ¬ (k : Int) < (N : Int) := by omega
        have hfa := (HFA.out.congr (f' := fun i => K * durF u i) (fun i hi => if_pos (by omega))).row
        have hlu := HUL.out
        rw [← hlu, range_map_durF] at hfa
        have HV3 := hide hfa
        have HG3 := hide (HG2.out.fr0 hfr)
        have HU3 := hide (HU.out.fr0 hfr)
        have hw3 := hw2.call hfr
        have hq := schedule31_any (N : Int) (V : Int) A1 A2 c1 c2 (ofNs L) u wr HG3.out HU3.out (by have := HLL.out; omega)
        rw [HLL.out, HUL.out, hsch] at hq
        clear hfa hsch HFA HM hlu hfr HG2 HU
        go_wp2_with fail
        refine hq.mono ?_
        clear hq
        rintro e w4 ⟨v4, rfl, hown4, hf4⟩
        obtain ⟨A4, c4, rfl, -, hrow4, -⟩ := own_slice hown4
        have HS4 := hide hrow4
        have HG4 := hide (HG3.out.fr0 hf4)
        have HV4 := hide (HV3.out.fr0 hf4)
        have hw4 := hw3.call hf4
        have HSLEN := hide HC.out.done.len
        clear hrow4 hown4 HG3 HU3 HV3 hf4
        have hq := schedule31_any (N : Int) (V : Int) A1 (some ⟨g, 0, none⟩) c1 N (ofNs L) (u.map (K * ·)) w4 HG4.out HV4.out (by have := HLL.out; omega)
        rw [HLL.out, List.length_map, HUL.out, HC2.out.sch, durF_map, HSC.out] at hq
        have hti := (HC.out.time_le HU11.out).2.2
        generalize sched N L (durF u) V = S at HS4 HSLEN hti hq ⊢
        have HTI := hide hti
        clear hti
        go_wp2_with fail
        refine hq.mono ?_
        clear hq
        rintro e w5 ⟨v5, rfl, hown5, hf5⟩
        simp only [List.length_map] at hown5 ⊢
        obtain ⟨A5, c5, rfl, -, hrow5, -⟩ := own_slice hown5
        have HT5 := hide hrow5
        have HS5 := hide (HS4.out.fr0 hf5)
        have hw5 := hw4.call hf5
        have hne1 : ((S.length : Int) != (N : Int)) = false := by simp [HSLEN.out]
        clear hrow5 hown5 HG4 HV4 HS4 hf5
        go_wp2
        go_loopg [22] N (fun m i wq => ScRel2 w5 N m i wq)
        case atStart => exact ⟨0, by omega, rfl, Fr.refl _ _, rfl⟩
        case round =>
          clear hkl hk
          obtain ⟨k, hk, rfl, hfr, hmm⟩ := hrel
          have HM := hide hmm
          clear hmm
          by_cases hlt : k < N
          · obtain ⟨x, hx⟩ : ∃ x, S[k]? = some x := ⟨_, List.getElem?_eq_getElem (by have := HSLEN.out; omega)⟩
            obtain ⟨ob, oo, e, x0, x1, x2, x3⟩ := (HS5.out.fr0 hfr).slt hx
            subst e
            have hkl : (k : Int) < (N : Int) := by omega
            have hk2 : (k : Int) < (S.length : Int) := by rw [HSLEN.out]; omega
            have htx := HTI.out x (List.mem_of_getElem? hx)
            have hx2 : (S.map (scS K))[k]? = some (scS K x) := by rw [List.getElem?_map, hx]; rfl
            have HX2 := hide hx2
            have HT6 := HT5.out.fr0 hfr
            obtain ⟨xd, xw, xs, xe⟩ := x
            simp only at x0 x1 x2 x3 htx
            have hN11 : N * 11 ≤ 143 := by omega
            have hxs : xs ≤ 143 := by omega
            have hxe : xe ≤ 143 := by omega
            have hm1 : K * xs ≤ 65536 * 143 := Nat.mul_le_mul hKb hxs
            have hm2 : K * xe ≤ 65536 * 143 := Nat.mul_le_mul hKb hxe
            have p0 : 0 ≤ (K : Int) * (xs : Int) := by rw [← Int.natCast_mul]; omega
            have p1 : (K : Int) * (xs : Int) ≤ 9371648 := by rw [← Int.natCast_mul]; omega
            have p2 : 0 ≤ (K : Int) * (xe : Int) := by rw [← Int.natCast_mul]; omega
            have p3 : (K : Int) * (xe : Int) ≤ 9371648 := by rw [← Int.natCast_mul]; omega
            have hbx := Blk.new wr 38 #[.int .i64 (xd : Int), .int .i64 (xw : Int), .int .u64 ((K : Int) * (xs : Int)), .int .u64 ((K : Int) * (xe : Int))]
            have hfx : Fr [] wr (wr.alloc (.cells #[.int .i64 (xd : Int), .int .i64 (xw : Int), .int .u64 ((K : Int) * (xs : Int)), .int .u64 ((K : Int) * (xe : Int))] 38)) := (Fr.refl [] wr).alloc _
            clear hx hx2 htx hm1 hm2 hxs hxe hN11
            go_wp2
            generalize (wr.alloc (.cells #[.int .i64 (xd : Int), .int .i64 (xw : Int), .int .u64 ((K : Int) * (xs : Int)), .int .u64 ((K : Int) * (xe : Int))] 38)) = wx at hbx hfx ⊢
            generalize wr.heap.size = xb at hbx ⊢
            have b0 : wx.cell? ⟨xb, 0, none⟩ = some (.int .i64 (xd : Int)) := hbx.cell 0
            have b1 : wx.cell? ⟨xb, 1, none⟩ = some (.int .i64 (xw : Int)) := hbx.cell 1
            have b2 : wx.cell? ⟨xb, 2, none⟩ = some (.int .u64 ((K : Int) * (xs : Int))) := hbx.cell 2
            have b3 : wx.cell? ⟨xb, 3, none⟩ = some (.int .u64 ((K : Int) * (xe : Int))) := hbx.cell 3
            obtain ⟨ob2, oo2, e, y0, y1, y2, y3⟩ := (HT6.fr0 hfx).slt HX2.out
            subst e
            simp only [scS, Int.natCast_mul] at y0 y1 y2 y3
            generalize (K : Int) * (xs : Int) = ys at b2 y2 p0 p1
            generalize (K : Int) * (xe : Int) = ye at b3 y3 p2 p3
            clear HT6 hbx x0 x1 x2 x3
            go_wp2
            go_quiet (fail)
            go_wp2
            go_roundg (N - (k + 1))
            case measure => rw [HM.out]; omega
            case rel => exact ⟨k + 1, by omega, by go_num, (hfr.call hfx).drewN _, rfl⟩
          · have hkl : ¬ (k : Int) < (N : Int) := by omega
            go_wp2_with fail
            refine (awake31_any _).mono ?_
            rintro e w9 ⟨rfl, hf9⟩
            go_wp2
            go_ret
            exact ⟨rfl, (hw5.call hfr).call hf9⟩

theorem scales_walk' (n : Int) (A B : Option Addr) (cp cq : Nat) (raw : List (Int × Int)) (d : List Nat) (workers : Int) (f : Int) (hf : (Lit.int .u16 f).wf = true) (w : World) (hr : Row w A (pcs raw)) (hm : raw.length ≤ maxLen) (hd : Row w B (d.map uv)) (hdm : d.length ≤ maxLen) :
    Calls Try.prog 10 #[.int .i64 n, .slice A raw.length cp, .slice B d.length cq, .int .i64 workers, .int .u16 f] w fun e w' => e = .returned (.bool true) ∧ Fr [] w w' := by
  simp only [Lit.wf, Bool.and_eq_true, decide_eq_true_eq] at hf
  have h0 : 0 ≤ f := hf.1
  have h1 : f ≤ 65535 := hf.2
  obtain ⟨k, rfl⟩ := Int.eq_ofNat_of_zero_le h0
  exact scales_walk n A B cp cq raw d workers k (by omega) w hr hm hd hdm
end Go.Proofs.Ytinengemeppefaa
