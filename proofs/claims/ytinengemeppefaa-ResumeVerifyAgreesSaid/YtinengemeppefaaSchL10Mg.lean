/- The law ResumeVerifyAgrees, walked. -/
import Derived.Test.YtinengemeppefaaSchL0Mg
import Derived.Test.YtinengemeppefaaSchV2Mg
import Derived.Test.YtinengemeppefaaSchR3bMg
import Derived.Test.YtinengemeppefaaSchR6Mg
import Derived.Test.YtinengemeppefaaMgResumeVerify6
import Derived.Deep.DeepCutAuto
namespace Go.Proofs.Ytinengemeppefaa
open Go.RowKit

/-- Behind the switch: a row of slots that fit. -/
def VrCut (w : World) (s : Value) (wx : World) : Prop :=
  ∃ (g o cs : Nat) (S : List RSl), s = .slice (some ⟨g, o, none⟩) S.length cs ∧ Row wx (some ⟨g, o, none⟩) (rcells S) ∧ S.length ≤ cs ∧ S.length ≤ 4096 ∧ (∀ x ∈ S, RFits x) ∧ Fr [] w wx
theorem VrCut.mk' {w wx : World} {g c n i : Nat} {l : List RSl} {z : RSl} {xs : List Value} (h : OwnR wx g 38 xs) (e : xs = rcells (l.set i z)) (hn : l.length = n) (hc : n ≤ c) (h4 : n ≤ 4096) (hf : ∀ x ∈ l, RFits x) (hz : RFits z) (hw : Fr [] w wx) :
    VrCut w (.slice (some ⟨g, 0, none⟩) n c) wx := by
  have hl : (l.set i z).length = n := by rw [List.length_set, hn]
  refine ⟨g, 0, c, l.set i z, by rw [hl], by rw [← e]; exact h.row, by omega, by omega, fits_set hf hz, hw⟩
def VrTwo (w : World) (g : Nat) (l : List RSl) (i : Nat) (z : RSl) (wx : World) : Prop := OwnR wx g 38 (rcells (l.set i z)) ∧ Fr [] w wx
section
variable {w0 w : World} {g i : Nat} {l : List RSl} {x : RSl}
theorem OwnR.two (h : OwnR w g 38 (rcells l)) (hx : l[i]? = some x) (s e : Nat) :
    OwnR (w.setCell ⟨g, i * 4 + 2, none⟩ (.int .u64 (s : Int))) g 38 (rcells (l.set i { x with s := s })) ∧ OwnR (w.setCell ⟨g, i * 4 + 3, none⟩ (.int .u64 (e : Int))) g 38 (rcells (l.set i { x with e := e })) ∧ (w.setCell ⟨g, i * 4 + 2, none⟩ (.int .u64 (s : Int))).cell? ⟨g, i * 4 + 3, none⟩ = some (.int .u64 (x.e : Int)) ∧ (w.setCell ⟨g, i * 4 + 3, none⟩ (.int .u64 (e : Int))).cell? ⟨g, i * 4 + 2, none⟩ = some (.int .u64 (x.s : Int)) := by
  have h1 := h.set_ (i * 4 + 2) (.int .u64 (s : Int))
  have h2 := h.set_ (i * 4 + 3) (.int .u64 (e : Int))
  rw [show Value.int .u64 (s : Int) = uv s from rfl, rcells_s hx] at h1
  rw [show Value.int .u64 (e : Int) = uv e from rfl, rcells_e hx] at h2
  have hi : i < l.length := (List.getElem?_eq_some_iff.1 hx).1
  have c1 := h1.cell (rcells_cells (l := l.set i { x with s := s }) (x := { x with s := s }) (List.getElem?_set_self hi)).2.2.2
  have c2 := h2.cell (rcells_cells (l := l.set i { x with e := e }) (x := { x with e := e }) (List.getElem?_set_self hi)).2.2.1
  exact ⟨h1, h2, c1, c2⟩
theorem VrTwo.ab (h : OwnR w g 38 (rcells l)) (hx : l[i]? = some x) (hf : Fr [] w0 w) (hg : w0.heap.size ≤ g) {s e : Nat} :
    VrTwo w0 g l i ⟨x.d, x.w, s, e⟩ ((w.setCell ⟨g, i * 4 + 2, none⟩ (.int .u64 (s : Int))).setCell ⟨g, i * 4 + 3, none⟩ (.int .u64 (e : Int))).drew := by
  have h1 := (h.set_ (i * 4 + 2) (.int .u64 (s : Int))).set_ (i * 4 + 3) (.int .u64 (e : Int))
  rw [show Value.int .u64 (s : Int) = uv s from rfl, show Value.int .u64 (e : Int) = uv e from rfl, rcells_se hx] at h1
  exact ⟨h1.fr0 (Fr.refl _ _).drew, ((hf.set (.inr hg) _).set (.inr hg) _).drew⟩
theorem VrTwo.ba (h : OwnR w g 38 (rcells l)) (hx : l[i]? = some x) (hf : Fr [] w0 w) (hg : w0.heap.size ≤ g) {s e : Nat} :
    VrTwo w0 g l i ⟨x.d, x.w, s, e⟩ ((w.setCell ⟨g, i * 4 + 3, none⟩ (.int .u64 (e : Int))).setCell ⟨g, i * 4 + 2, none⟩ (.int .u64 (s : Int))).drew := by
  have hi : i < l.length := (List.getElem?_eq_some_iff.1 hx).1
  have h1 := (h.set_ (i * 4 + 3) (.int .u64 (e : Int))).set_ (i * 4 + 2) (.int .u64 (s : Int))
  rw [show Value.int .u64 (s : Int) = uv s from rfl, show Value.int .u64 (e : Int) = uv e from rfl, rcells_e hx, rcells_s (x := { x with e := e }) (List.getElem?_set_self hi), List.set_set] at h1
  exact ⟨h1.fr0 (Fr.refl _ _).drew, ((hf.set (.inr hg) _).set (.inr hg) _).drew⟩
end
theorem VrCut.two {w wx : World} {g c n i : Nat} {l : List RSl} {z : RSl} (h : VrTwo w g l i z wx) (hn : l.length = n) (hc : n ≤ c) (h4 : n ≤ 4096) (hf : ∀ x ∈ l, RFits x) (hz : RFits z) : VrCut w (.slice (some ⟨g, 0, none⟩) n c) wx :=
  VrCut.mk' h.1 rfl hn hc h4 hf hz h.2
theorem VrCut.tail {w wx : World} {g c n : Nat} {l : List RSl} (h : OwnR wx g 38 (rcells l)) (hn : l.length = n) (h0 : 0 < n) (hc : n ≤ c) (h4 : n ≤ 4096) (hf : ∀ x ∈ l, RFits x) (hw : Fr [] w wx) : VrCut w (.slice (some ⟨g, 4, none⟩) (n - 1) (c - 1)) wx := by
  cases l with
  | nil => simp at hn; omega
  | cons a l =>
    have hl : l.length = n - 1 := by simp at hn; omega
    have hr := h.drop 4
    rw [rcells_tail] at hr
    exact ⟨g, 4, c - 1, l, by rw [hl], hr, by omega, by omega, fun x hx => hf x (List.mem_cons_of_mem _ hx), hw⟩
theorem VrCut.none {w wx : World} {g n : Nat} (h0 : n = 0) (hw : Fr [] w wx) : VrCut w (.slice (some ⟨g, 0, none⟩) n 0) wx := by
  subst h0
  exact ⟨g, 0, 0, [], rfl, Row.nil _ _, by simp, by simp, (fun x hx => by cases hx), hw⟩
theorem w_u64_add {a b : Nat} : ∃ c : Nat, IntKind.u64.wrap ((a : Int) + (b : Int)) = (c : Int) ∧ c ≤ 18446744073709551615 := by
  rw [IntKind.wrap_u64]
  exact ⟨((a : Int) + (b : Int)).toNat % 18446744073709551616, by omega, by omega⟩
theorem w_u64_sub {a b : Nat} : ∃ c : Nat, IntKind.u64.wrap ((a : Int) - (b : Int)) = (c : Int) ∧ c ≤ 18446744073709551615 := by
  rw [IntKind.wrap_u64]
  exact ⟨(((a : Int) - (b : Int)) % 18446744073709551616).toNat, by omega, by omega⟩
set_option maxHeartbeats 8000000 in
set_option maxRecDepth 100000 in
theorem verifyAgrees_walk (n : Int) (A B C : Option Addr) (cp cq cc : Nat) (raw : List (Int × Int)) (d : List Nat) (workers : Int) (slots : List RSl) (k : Int) (xx : Nat) (how : Nat) (hxx : xx ≤ 18446744073709551615) (hh : how ≤ 255) (w : World) (hr : Row w A (pcs raw)) (hm : raw.length ≤ maxLen) (hd : Row w B (d.map uv)) (hdm : d.length ≤ maxLen) (hs : Row w C (rcells slots)) (hsm : slots.length ≤ maxLen) (hcc : slots.length ≤ cc) (hfit : ∀ q ∈ slots, RFits q) :
    Calls Try.prog 8 #[.int .i64 n, .slice A raw.length cp, .slice B d.length cq, .int .i64 workers, .slice C slots.length cc, .int .i64 k, .int .u64 (xx : Int), .int .u8 (how : Int)] w fun e w' => e = .returned (.bool true) ∧ Fr [] w w' := by
  have HR := hide hr
  have HD := hide hd
  have HS := hide hs
  have HDM := hide hdm
  have HCC := hide hcc
  have HFT := hide hfit
  unfold maxLen at hm hdm hsm
  clear hr hd hs hcc hfit
  by_cases h40 : 40 < raw.length
  · have hb : decide ((40 : Int) < (raw.length : Int)) = true := by simp; omega
    go_enter Try.func8, Try.ntmps8
    go_wp2_with fail
    refine (awake31_any w).mono ?_
    rintro e w1 ⟨rfl, hfr⟩
    go_wp2
    go_ret
    exact ⟨rfl, hfr⟩
  have hb : decide ((40 : Int) < (raw.length : Int)) = false := by simp; omega
  have h40' : raw.length ≤ 40 := by omega
  by_cases h20 : 20 < slots.length
  · have hb2 : decide ((20 : Int) < (slots.length : Int)) = true := by simp; omega
    go_enter Try.func8, Try.ntmps8
    go_wp2_with fail
    refine (awake31_any w).mono ?_
    rintro e w1 ⟨rfl, hfr⟩
    go_wp2
    go_ret
    exact ⟨rfl, hfr⟩
  have hb2 : decide ((20 : Int) < (slots.length : Int)) = false := by simp; omega
  have h20' : slots.length ≤ 20 := by omega
  clear h40 h20 hm hdm hsm
  go_enter Try.func8, Try.ntmps8
  go_wp2_with fail
  refine (graph_any n A cp raw true w HR.out (by omega)).mono ?_
  rintro e w1 ⟨v1, rfl, hown1, hf1⟩
  obtain ⟨A1, c1, rfl, -, hrow1, -⟩ := own_slice hown1
  have hgok := graphM_ok n raw true
  have hN := gNodes_lt n
  generalize graphM n raw true = L at hgok hrow1 ⊢
  generalize gNodes n = N at hN hgok ⊢
  generalize umod n 13 = sh at hgok
  have HGO := hide hgok
  have HLL := hide (ofNs_length L)
  have HG := hide hrow1
  have hgl := hgok.len
  clear hrow1 hown1 hgok
  go_wp2_with fail
  refine (mod_any workers 4 _ (by omega) (by omega)).mono ?_
  rintro e w2 ⟨rfl, rfl⟩
  have hu5 := umod_lt workers (n := 4) (by omega)
  obtain ⟨V, hV⟩ : ∃ V, V = 1 + umod workers 4 := ⟨_, rfl⟩
  have hVi : (1 : Int) + (umod workers 4 : Int) = (V : Int) := by omega
  have hV5 : 1 ≤ V ∧ V ≤ 5 := by omega
  generalize umod workers 4 = um at hVi hu5 ⊢
  clear hV
  go_wp2_with fail
  refine (durations_any N B cq d w1 (HD.out.fr0 hf1) (by omega) HDM.out).mono ?_
  rintro e w2 ⟨v2, rfl, hown2, hf2⟩
  obtain ⟨A2, c2, rfl, -, hrow2, -⟩ := own_slice hown2
  have hul := durM_length N d
  have hcase := case31 (W := V) HGO.out (by omega) (by omega) hul (fun x hx => Nat.le_trans (durM_le hx) (by decide))
  have hu11 : ∀ x ∈ durM N d, x ≤ 11 := fun x hx => durM_le hx
  generalize durM N d = u at hul hrow2 hcase hu11
  have HSF : Hid (∀ x ∈ (sched N L (durF u) V).map toR, RFits x) := hide (fun x hx => by
    obtain ⟨y, hy, rfl⟩ := List.mem_map.1 hx
    have := (hcase.time_le hu11).2.2 y hy
    unfold RFits toR
    simp only
    omega)
  have HSLEN := hide hcase.done.len
  have HSCH := hide hcase.sch
  have HUL := hide hul
  have hf02 := hf1.call hf2
  have HG2 := hide (HG.out.fr0 hf2)
  have HU2 := hide hrow2
  have HD2 := hide (HD.out.fr0 hf02)
  have HR2 := hide (HR.out.fr0 hf02)
  have HS2 := hide (HS.out.fr0 hf02)
  clear hul hrow2 hown2 HG HD HR HS hf2 hf1 hcase hu11
  have hlb : (ofNs L).length ≤ 4096 := by have := HLL.out; omega
  have HLB := hide hlb
  clear hlb
  -- the slots that came in
  go_wp2_with fail
  have hq := verify31_any (N : Int) (V : Int) A1 A2 C c1 c2 cc (ofNs L) u slots w2 HG2.out HU2.out HS2.out HLB.out (by omega) HCC.out HFT.out
  rw [HLL.out, HUL.out] at hq
  generalize hR : verM (N : Int) (ofNs L) u (V : Int) slots = R at hq
  have HR0 := hide hR
  clear hR
  refine hq.mono ?_
  clear hq
  rintro e w3 ⟨rfl, hf23⟩
  go_wp2_with fail
  have hq := rverify31_any (N : Int) (V : Int) A1 A2 C c1 c2 cc (ofNs L) u slots w3 (HG2.out.fr0 hf23) (HU2.out.fr0 hf23) (HS2.out.fr0 hf23) HLB.out (by omega) HFT.out
  rw [HLL.out, HUL.out, HR0.out] at hq
  refine hq.mono ?_
  clear hq
  rintro e w4 ⟨rfl, hf4⟩
  have hf24 := hf23.call hf4
  have hn1 : (R != R) = false := by simp
  clear hf23 hf4 HR0
  go_wp2_with fail
  have hq := verify31_any n workers A B C cp cq cc raw d slots w4 (HR2.out.fr0 hf24) (HD2.out.fr0 hf24) (HS2.out.fr0 hf24) (by omega) (by omega) HCC.out HFT.out
  generalize hR : verM n raw d workers slots = R2 at hq
  have HR0 := hide hR
  clear hR
  refine hq.mono ?_
  clear hq
  rintro e w5 ⟨rfl, hf5⟩
  have hf25 := hf24.call hf5
  go_wp2_with fail
  have hq := rverify31_any n workers A B C cp cq cc raw d slots w5 (HR2.out.fr0 hf25) (HD2.out.fr0 hf25) (HS2.out.fr0 hf25) (by omega) (by omega) HFT.out
  rw [HR0.out] at hq
  refine hq.mono ?_
  clear hq
  rintro e w6 ⟨rfl, hf6⟩
  have hf26 := hf25.call hf6
  have hn2 : (R2 != R2) = false := by simp
  clear hf24 hf25 hf5 hf6 HR0 HD2 HR2 HS2 HCC HFT
  -- the reference's schedule
  go_wp2_with fail
  have hq := rschedule31_any (N : Int) (V : Int) A1 A2 c1 c2 (ofNs L) u w6 (HG2.out.fr0 hf26) (HU2.out.fr0 hf26) HLB.out
  rw [HLL.out, HUL.out, HSCH.out] at hq
  refine hq.mono ?_
  clear hq
  rintro e w7 ⟨v7, rfl, hown7, hf7⟩
  have hf06 := hf02.call hf26
  have HG7 := hide (HG2.out.fr0 hf26)
  have HU7 := hide (HU2.out.fr0 hf26)
  generalize sched N L (durF u) V = S at HSF HSLEN hown7 ⊢
  have hl7 := HSLEN.out
  simp only at hown7
  by_cases hN0 : N = 0
  · obtain ⟨A7, c7, rfl, -, -, -⟩ := own_slice hown7
    have hz : S.length = 0 := by omega
    rw [hz]
    clear hown7
    go_wp2_with fail
    refine (awake31_any w7).mono ?_
    rintro e w8 ⟨rfl, hfr⟩
    go_wp2
    go_ret
    exact ⟨rfl, (hf06.call hf7).call hfr⟩
  obtain ⟨g, c7, rfl, hcap, hg, hown⟩ := own_cut hown7 (by omega)
  rw [← rcells_toR] at hown
  have hSl : (S.map toR).length = S.length := List.length_map _
  generalize S.map toR = l at HSF hown hSl
  rw [hl7] at hSl hcap
  rw [hl7]
  have hne : ((N : Int) == 0) = false := beq_eq_false_iff_ne.2 (by omega)
  have HSL := hide hSl
  have HO := hide hown
  clear hSl hown hown7 HSLEN hl7 hf26 hf02 HSCH hn1 hn2 HG2 HU2
  go_wp2_with fail
  refine (mod_any k N _ (by omega) (by omega)).mono ?_
  rintro e w8 ⟨rfl, rfl⟩
  have hi := umod_lt k (n := N) (by omega)
  generalize umod k N = i at hi ⊢
  obtain ⟨x, hx⟩ : ∃ x, l[i]? = some x := ⟨_, List.getElem?_eq_getElem (by have := HSL.out; omega)⟩
  have HX := hide hx
  have hrx := HSF.out x (List.mem_of_getElem? hx)
  obtain ⟨k0, k1, k2, k3⟩ := rcells_cells hx
  have d0 := HO.out.cell k0
  have d1 := HO.out.cell k1
  have d2 := HO.out.cell k2
  have d3 := HO.out.cell k3
  clear hx k0 k1 k2 k3
  obtain ⟨r, hr⟩ : ∃ r, r = how % 6 := ⟨_, rfl⟩
  have hre : (how : Int).tmod 6 = (r : Int) := by rw [Int.tmod_eq_emod_of_nonneg (by omega)]; omega
  have hr6 : r < 6 := by omega
  have hrw : IntKind.u8.wrap (r : Int) = (r : Int) := by simp [IntKind.wrap, IntKind.signed, IntKind.bits]; omega
  clear hr
  go_upto_block 0 with (fail)
  go_cut [21] (fun s21 wx => VrCut w6 s21 wx)
  case first =>
    by_cases e0 : r = 0
    · subst e0
      obtain ⟨q, hq⟩ : ∃ q, q = xx % 8 := ⟨_, rfl⟩
      have q1 : (xx : Int).tmod 8 = (q : Int) := by rw [Int.tmod_eq_emod_of_nonneg (by omega)]; omega
      have q8 : q < 8 := by omega
      have q2 : IntKind.u64.wrap (q : Int) = (q : Int) := by rw [wrap_u64]; omega
      obtain ⟨V1, hV1⟩ : ∃ V1, V1 = V + 1 := ⟨_, rfl⟩
      have hV1i : (V : Int) + 1 = (V1 : Int) := by omega
      have hV1b : 1 ≤ V1 ∧ V1 ≤ 6 := by omega
      have f1 := HO.out.frozen (i * 4 + 1)
      have b0 : (((0 : Nat) : Int) == 0) = true := rfl
      clear hq hV1 hre hrw
      go_wp2_with fail
      refine (mod_any (q : Int) V1 _ (by omega) (by omega)).mono ?_
      rintro e w9 ⟨rfl, rfl⟩
      go_wp2
      go_meet
      exact VrCut.mk' (HO.out.set_ (i * 4 + 1) _) (rcells_w HX.out _) HSL.out hcap (by omega) HSF.out hrx (hf7.set (.inr hg) _)
    have b0 : ((r : Int) == 0) = false := beq_eq_false_iff_ne.2 (by omega)
    by_cases e1 : r = 1
    · subst e1
      obtain ⟨q, hq⟩ : ∃ q, q = xx % 4 := ⟨_, rfl⟩
      have q1 : (xx : Int).tmod 4 = (q : Int) := by rw [Int.tmod_eq_emod_of_nonneg (by omega)]; omega
      have q2 : IntKind.u64.wrap (q : Int) = (q : Int) := by rw [wrap_u64]; omega
      obtain ⟨s1, hs1, hs1b⟩ := w_u64_add (a := x.s) (b := q)
      obtain ⟨s2, hs2, hs2b⟩ := w_u64_add (a := x.e) (b := q)
      have b1 : (((1 : Nat) : Int) == 1) = true := rfl
      clear hq hre hrw
      go_upto_region 17 with (fail)
      have f2 := HO.out.frozen (i * 4 + 2)
      have f3 := HO.out.frozen (i * 4 + 3)
      obtain ⟨o1, o2, o3, o4⟩ := HO.out.two HX.out s1 s2
      have g2 := o1.frozen (i * 4 + 3)
      have g3 := o2.frozen (i * 4 + 2)
      have HO1 := hide o1
      have HO2 := hide o2
      clear o1 o2
      go_region
      all_goals
        go_wp2
        go_meet
        first
          | exact VrCut.two (VrTwo.ab HO.out HX.out hf7 hg) HSL.out hcap (by omega) HSF.out ⟨hs1b, hs2b⟩
          | exact VrCut.two (VrTwo.ba HO.out HX.out hf7 hg) HSL.out hcap (by omega) HSF.out ⟨hs1b, hs2b⟩
    have b1 : ((r : Int) == 1) = false := beq_eq_false_iff_ne.2 (by omega)
    by_cases e2 : r = 2
    · subst e2
      obtain ⟨q, hq⟩ : ∃ q, q = xx % 15 := ⟨_, rfl⟩
      have q1 : (xx : Int).tmod 15 = (q : Int) := by rw [Int.tmod_eq_emod_of_nonneg (by omega)]; omega
      have q8 : q < 15 := by omega
      have q2 : IntKind.u64.wrap (q : Int) = (q : Int) := by rw [wrap_u64]; omega
      have q3 : IntKind.i64.wrap ((q : Int) - 1) = (q : Int) - 1 := by simp [IntKind.wrap, IntKind.signed, IntKind.bits]; omega
      have q4 : IntKind.i64.wrap (q : Int) = (q : Int) := by simp [IntKind.wrap, IntKind.signed, IntKind.bits]; omega
      have f0 := HO.out.frozen (i * 4)
      have b2 : (((2 : Nat) : Int) == 2) = true := rfl
      clear hq hre hrw
      go_wp2
      go_meet
      exact VrCut.mk' (HO.out.set_ (i * 4) _) (rcells_d HX.out _) HSL.out hcap (by omega) HSF.out hrx (hf7.set (.inr hg) _)
    have b2 : ((r : Int) == 2) = false := beq_eq_false_iff_ne.2 (by omega)
    by_cases e3 : r = 3
    · subst e3
      obtain ⟨q, hq⟩ : ∃ q, q = xx % 3 := ⟨_, rfl⟩
      have q1 : (xx : Int).tmod 3 = (q : Int) := by rw [Int.tmod_eq_emod_of_nonneg (by omega)]; omega
      have q2 : IntKind.u64.wrap (q : Int) = (q : Int) := by rw [wrap_u64]; omega
      obtain ⟨s2, hs2, hs2b⟩ := w_u64_add (a := x.e) (b := q)
      have f3 := HO.out.frozen (i * 4 + 3)
      have b3 : (((3 : Nat) : Int) == 3) = true := rfl
      clear hq hre hrw
      go_wp2
      go_meet
      exact VrCut.mk' (HO.out.set_ (i * 4 + 3) _) (rcells_e HX.out _) HSL.out hcap (by omega) HSF.out ⟨hrx.1, hs2b⟩ (hf7.set (.inr hg) _)
    have b3 : ((r : Int) == 3) = false := beq_eq_false_iff_ne.2 (by omega)
    by_cases e4 : r = 4
    · subst e4
      obtain ⟨q, hq⟩ : ∃ q, q = xx % 3 := ⟨_, rfl⟩
      have q1 : (xx : Int).tmod 3 = (q : Int) := by rw [Int.tmod_eq_emod_of_nonneg (by omega)]; omega
      have q2 : IntKind.u64.wrap (q : Int) = (q : Int) := by rw [wrap_u64]; omega
      obtain ⟨s1, hs1, hs1b⟩ := w_u64_sub (a := x.s) (b := q)
      obtain ⟨s2, hs2, hs2b⟩ := w_u64_sub (a := x.e) (b := q)
      have b4 : (((4 : Nat) : Int) == 4) = true := rfl
      clear hq hre hrw
      go_upto_region 23 with (fail)
      have f2 := HO.out.frozen (i * 4 + 2)
      have f3 := HO.out.frozen (i * 4 + 3)
      obtain ⟨o1, o2, o3, o4⟩ := HO.out.two HX.out s1 s2
      have g2 := o1.frozen (i * 4 + 3)
      have g3 := o2.frozen (i * 4 + 2)
      have HO1 := hide o1
      have HO2 := hide o2
      clear o1 o2
      go_region
      all_goals
        go_wp2
        go_meet
        first
          | exact VrCut.two (VrTwo.ab HO.out HX.out hf7 hg) HSL.out hcap (by omega) HSF.out ⟨hs1b, hs2b⟩
          | exact VrCut.two (VrTwo.ba HO.out HX.out hf7 hg) HSL.out hcap (by omega) HSF.out ⟨hs1b, hs2b⟩
    have b4 : ((r : Int) == 4) = false := beq_eq_false_iff_ne.2 (by omega)
    have hN1 : 1 ≤ N := by omega
    clear hre hrw d0 d1 d2 d3
    go_wp2
    all_goals
      go_meet
      first
        | exact VrCut.tail HO.out HSL.out (by omega) hcap (by omega) HSF.out hf7
        | exact VrCut.none (by omega) hf7
  case rest =>
    obtain ⟨gx, ox, cx, S, rfl, hrow, hlc, hl4, hfit, hfx⟩ := hcut
    have HS9 := hide hrow
    have HFT := hide hfit
    have HG9 := hide (HG7.out.fr0 hfx)
    have HU9 := hide (HU7.out.fr0 hfx)
    have hf09 := hf06.call hfx
    have HLC := hide hlc
    clear hrow hfit HG7 HU7 hfx hf06 hf7 hlc d0 d1 d2 d3 hre hrw HX HO HSL HSF hrx
    go_wp2_with fail
    have hq := verify31_any (N : Int) (V : Int) A1 A2 (some ⟨gx, ox, none⟩) c1 c2 cx (ofNs L) u S wc HG9.out HU9.out HS9.out HLB.out hl4 HLC.out HFT.out
    rw [HLL.out, HUL.out] at hq
    generalize hR : verM (N : Int) (ofNs L) u (V : Int) S = R3 at hq
    have HR0 := hide hR
    clear hR
    refine hq.mono ?_
    clear hq
    rintro e wa ⟨rfl, hfa⟩
    go_wp2_with fail
    have hq := rverify31_any (N : Int) (V : Int) A1 A2 (some ⟨gx, ox, none⟩) c1 c2 cx (ofNs L) u S wa (HG9.out.fr0 hfa) (HU9.out.fr0 hfa) (HS9.out.fr0 hfa) HLB.out hl4 HFT.out
    rw [HLL.out, HUL.out, HR0.out] at hq
    refine hq.mono ?_
    clear hq
    rintro e wb ⟨rfl, hfb⟩
    have hn3 : (R3 == R3) = true := by simp
    clear HR0
    go_wp2_with fail
    refine (awake31_any wb).mono ?_
    rintro e wd ⟨rfl, hfd⟩
    go_wp2
    go_ret
    exact ⟨rfl, ((hf09.call hfa).call hfb).call hfd⟩
theorem verifyAgrees_walk' (n : Int) (A B C : Option Addr) (cp cq cc : Nat) (raw : List (Int × Int)) (d : List Nat) (workers : Int) (slots : List RSl) (k x how : Int) (hx : (Lit.int .u64 x).wf = true) (hh : (Lit.int .u8 how).wf = true) (w : World) (hr : Row w A (pcs raw)) (hm : raw.length ≤ maxLen) (hd : Row w B (d.map uv)) (hdm : d.length ≤ maxLen) (hs : Row w C (rcells slots)) (hsm : slots.length ≤ maxLen) (hfit : slots.length ≤ cc ∧ ∀ q ∈ slots, SlWf q) :
    Calls Try.prog 8 #[.int .i64 n, .slice A raw.length cp, .slice B d.length cq, .int .i64 workers, .slice C slots.length cc, .int .i64 k, .int .u64 x, .int .u8 how] w fun e w' => e = .returned (.bool true) ∧ Fr [] w w' := by
  simp only [Lit.wf, Bool.and_eq_true, decide_eq_true_eq] at hx hh
  have hx0 : 0 ≤ x := hx.1
  have hx1 : x ≤ 18446744073709551615 := hx.2
  have hh0 : 0 ≤ how := hh.1
  have hh1 : how ≤ 255 := hh.2
  obtain ⟨x, rfl⟩ := Int.eq_ofNat_of_zero_le hx0
  obtain ⟨how, rfl⟩ := Int.eq_ofNat_of_zero_le hh0
  exact verifyAgrees_walk n A B C cp cq cc raw d workers slots k x how (by omega) (by omega) w hr hm hd hdm hs hsm hfit.1 (fun q hq => (hfit.2 q hq).2.2)
end Go.Proofs.Ytinengemeppefaa

