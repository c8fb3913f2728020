/- The law DeviceCheckAgrees. -/
import Derived.Test.YtmkbahmjickoiaaDevL0
import Derived.Test.YtmkbahmjickoiaaDevR3
import Derived.Test.YtmkbahmjickoiaaStoreA
import Derived.StillTailTactics
namespace Go.Proofs.Ytmkbahmjickoiaa
open Go.RowKit

theorem SomeTo.mem {raw out : List DV} {n k : Nat} (h : SomeTo raw out n k) (hk : k ≤ raw.length) {x : DV} (hx : x ∈ out) : ∃ r i rf, x = ⟨someP r i rf, someRl r n⟩ := by
  obtain ⟨i, hi⟩ := List.getElem?_of_mem hx
  have hl := (List.getElem?_eq_some_iff.1 hi).1
  rw [h.1] at hl
  obtain ⟨rf, hr⟩ := h.2 i _ hl (List.getElem?_eq_getElem (by omega))
  rw [hi] at hr
  injection hr with hr
  exact ⟨_, _, _, hr⟩
def CkCut (w5 : World) (base g : Nat) (wx : World) : Prop := ∃ D rl, Blk wx g 33 D.cells ∧ OwnRails wx base D rl ∧ (∀ k, (rl k).length ≤ 4096) ∧ Fr [g] w5 wx
theorem pd_size : (Try.prog.info? 33).map (·.size) = some 13 := by kernel_rfl
theorem CkCut.mk {w5 wx : World} {base g : Nat} {cs : Array Value} {D E : PD} {rl : Nat → List Int} (hb : Blk wx g 33 cs) (he : cs = D.cells) (ho : OwnRails wx base E rl) (hrf : D.rf = E.rf) (hl : ∀ k, (rl k).length ≤ 4096) (hf : Fr [g] w5 wx) : CkCut w5 base g wx :=
  ⟨D, rl, by rw [← he]; exact hb, fun q hq => by rw [hrf]; exact ho q hq, hl, hf⟩
theorem someRl_len3 (x : DV) (n k : Nat) : (someRl x n k).length ≤ 3 := by
  unfold someRl
  split
  · exact ascL_len (x.rl k) n
  · simp
theorem setPar (d : PD) (v : Int) : d.cells.setIfInBounds 0 (.int .i64 v) = ({ d with par := v } : PD).cells := rfl
theorem setWd (d : PD) (v : Int) : d.cells.setIfInBounds 11 (.int .i64 v) = ({ d with wd := v } : PD).cells := rfl
theorem setWs (d : PD) (v : Int) : d.cells.setIfInBounds 12 (.int .i64 v) = ({ d with ws := v } : PD).cells := rfl
theorem setDf (d : PD) {j : Nat} (hj : j < 6) (v : Int) : d.cells.setIfInBounds (5 + j) (.int .i64 v) = ({ d with df := upd d.df j v } : PD).cells := by
  have : j = 0 ∨ j = 1 ∨ j = 2 ∨ j = 3 ∨ j = 4 ∨ j = 5 := by omega
  rcases this with rfl | rfl | rfl | rfl | rfl | rfl <;> rfl
theorem setRf (d : PD) {j : Nat} (hj : j < 4) (v : Value) : d.cells.setIfInBounds (1 + j) v = ({ d with rf := upd d.rf j v } : PD).cells := by
  have : j = 0 ∨ j = 1 ∨ j = 2 ∨ j = 3 := by omega
  rcases this with rfl | rfl | rfl | rfl <;> rfl
theorem dvcs_at {l : List DV} {t : Nat} {u : Value} (h : (dvcs l)[t]? = some u) : ∃ x, l[t / 13]? = some x ∧ x.d.cells[t % 13]? = some u := by
  have hl : t < l.length * 13 := by
    have := (List.getElem?_eq_some_iff.1 h).1
    rwa [dvcs, flat_length dvc_len] at this
  have hi : t / 13 < l.length := by omega
  refine ⟨l[t / 13], List.getElem?_eq_getElem hi, ?_⟩
  have h2 := flat_get (f := dvc) dvc_len (List.getElem?_eq_getElem hi) (Nat.mod_lt t (show 0 < 13 by omega))
  rw [show t / 13 * 13 + t % 13 = t by omega] at h2
  rw [dvcs, h2] at h
  simpa [dvc] using h
theorem dvs_set {w : World} {ob cap : Nat} {cur : Array Value} {out : List DV} {i : Nat} {z : DV} (hb : Blk w ob 33 (over cur (i * 13) z.d.cells)) (hc : out.length ≤ cap) (hs : cur.size = cap * 13) (ht : cur.toList.take (out.length * 13) = dvcs out) (hi : i < out.length) :
    Row w (some ⟨ob, 0, none⟩) (dvcs (out.set i z)) := fun _ => ⟨ob, 0, rfl, fun t u hu => by
  have h13 : z.d.cells.size = 13 := rfl
  have hfit : i * 13 + z.d.cells.size ≤ cur.size := by omega
  rw [hb.cell (0 + t), Nat.zero_add]
  obtain ⟨x, hx, hxu⟩ := dvcs_at hu
  by_cases e : t / 13 = i
  · rw [e, List.getElem?_set_self hi] at hx
    injection hx with hx
    subst hx
    rw [over_in hfit (by omega) (by omega), show t - i * 13 = t % 13 by omega]
    exact hxu
  · rw [List.getElem?_set_ne (fun h => e h.symm)] at hx
    rw [over_out hfit (by omega)]
    have hil := (List.getElem?_eq_some_iff.1 hx).1
    have h2 := flat_get (f := dvc) dvc_len hx (Nat.mod_lt t (show 0 < 13 by omega))
    rw [show t / 13 * 13 + t % 13 = t by omega, show out.flatMap dvc = cur.toList.take (out.length * 13) from ht.symm, List.getElem?_take_of_lt (by omega)] at h2
    have h3 : (dvc x)[t % 13]? = some u := by simpa [dvc] using hxu
    rw [h3] at h2
    simpa using h2⟩
set_option maxHeartbeats 8000000 in
set_option maxRecDepth 100000 in
theorem checkAgrees_any (A : Option Addr) (cp : Nat) (raw : List DV) (n k v how : Int) (w : World) (hr : Row w A (dvcs raw)) (hw : ∀ x ∈ raw, DvWf w x) (hm : raw.length ≤ maxLen) :
    Calls Try.prog 3 #[.slice A raw.length cp, .int .i64 n, .int .i64 k, .int .i64 v, .int .u8 how] w fun e w' => e = .returned (.bool true) ∧ Fr [] w w' := by
  have HDV : Hid (DvsAt w A raw) := hide ⟨hr, fun x hx => (hw x hx).1⟩
  have HW := hide hw
  have HML := hide hm
  obtain ⟨i0, hi0, hz0, hz1, hz2⟩ := info_parts int_info27
  have HI := hide (And.intro hi0 (And.intro hz0 (And.intro hz1 hz2)))
  clear hr hw hm hi0 hz0 hz1 hz2
  go_enter Try.func3, Try.ntmps3
  go_wp2_with fail
  refine (large27_any A cp raw w HDV.out HML.out).mono ?_
  rintro e w1 ⟨big, rfl, hlg, rfl⟩
  cases big with
  | true =>
    go_wp2_with fail
    refine (awake27_any w).mono ?_
    rintro e w7 ⟨rfl, hf7⟩
    go_wp2
    go_ret
    exact ⟨rfl, hf7⟩
  | false =>
  have HLG : Hid (∀ x ∈ raw, ∀ k, (x.rl k).length ≤ 4096) := hide (fun x hx k => by
    by_cases h : k < 4
    · have := (hlg rfl).2 x hx k h
      omega
    · rw [(HW.out x hx).2.2 k (by omega)]
      simp)
  have hr20 : raw.length ≤ 20 := (hlg rfl).1
  clear hlg
  go_wp2_with fail
  refine (mod_int n 6 w (by omega) (by omega)).mono ?_
  rintro e w' ⟨rfl, rfl⟩
  rw [show (6 : Int).toNat = 6 from rfl]
  have hM := umod_lt n (show 0 < 6 by omega)
  generalize umod n 6 = M at hM ⊢
  go_wp2_with fail
  refine (some27_any A cp raw M w HDV.out HML.out (fun x hx k => Nat.le_trans (HLG.out x hx k) (by unfold maxLen; omega)) (by omega)).mono ?_
  rintro e w2 ⟨vv, out, rfl, hown, hra, hso, hf2⟩
  obtain ⟨B, cb, rfl, -, hrow, hbl⟩ := own_slice hown
  have HD2 : Hid (DvsAt w2 B out) := hide ⟨hrow, fun x hx => (hra x hx).at_⟩
  have HL2 : Hid (∀ x ∈ out, ∀ k, (x.rl k).length ≤ 4096) := hide (fun x hx k => by
    obtain ⟨r, i, rf, rfl⟩ := hso.mem (by omega) hx
    exact someRl_len r M k)
  have HL3 : Hid (∀ x ∈ out, ∀ k, (x.rl k).length ≤ 3) := hide (fun x hx k => by
    obtain ⟨r, i, rf, rfl⟩ := hso.mem (by omega) hx
    exact someRl_len3 r M k)
  have hol : out.length ≤ 6 := by rw [hso.1]; omega
  have HOWN := hide hown
  have HRA := hide hra
  clear hown hra hso hrow
  go_wp2_with fail
  refine (check27_any A cp raw n w2 (HDV.out.fr0 hf2) HLG.out HML.out).mono ?_
  rintro e w3 ⟨rfl, hf3⟩
  go_wp2_with fail
  refine (rcheck27_any A cp raw n w3 ((HDV.out.fr0 hf2).fr0 hf3) HLG.out HML.out).mono ?_
  rintro e w4 ⟨rfl, hf4⟩
  have hf24 := hf3.call hf4
  have hne : (checkM raw n != checkM raw n) = false := by simp
  go_wp2_with fail
  refine (check27_any B cb out M w4 (HD2.out.fr0 hf24) HL2.out (by unfold maxLen; omega)).mono ?_
  rintro e w5 ⟨rfl, hf5⟩
  go_wp2_with fail
  refine (rcheck27_any B cb out M w5 ((HD2.out.fr0 hf24).fr0 hf5) HL2.out (by unfold maxLen; omega)).mono ?_
  rintro e w6 ⟨rfl, hf6⟩
  have hf26 := (hf24.call hf5).call hf6
  have hf06 := hf2.call hf26
  have hne2 : (checkM out M != checkM out M) = false := by simp
  have HOWN6 := hide (own_fr HOWN.out hf26 (fun _ _ => by simp))
  have HRA6 : Hid (∀ x ∈ out, OwnRails w6 w.heap.size x.d x.rl) := hide (fun x hx q hq => own_fr (HRA.out x hx q hq) hf26 (fun _ _ => by simp))
  have HD6 := hide (HD2.out.fr0 hf26)
  clear HOWN HRA HD2 hf24 hf5 hf6 hf3 hf4 hf2
  by_cases h0 : 0 < out.length
  · have h0' : (0 : Int) < (out.length : Int) := by omega
    go_wp2_with fail
    refine (mod_any k out.length w6 h0 (by omega)).mono ?_
    rintro e w' ⟨rfl, rfl⟩
    have hi := umod_lt k h0
    generalize humk : umod k out.length = i at hi ⊢
    have HUK := hide humk
    obtain ⟨x, hx⟩ : ∃ x, out[i]? = some x := ⟨_, List.getElem?_eq_getElem hi⟩
    have HX := hide hx
    have hil : (i : Int) < (out.length : Int) := by omega
    obtain ⟨ob, oo, rfl, c0, c1, c2, c3, c4, c5, c6, c7, c8, c9, c10, c11, c12⟩ := HD6.out.el hx
    obtain ⟨A0, q0, E0, -⟩ := (HD6.out.2 x (List.mem_of_getElem? hx)) 0 (by omega)
    obtain ⟨A1, q1, E1, -⟩ := (HD6.out.2 x (List.mem_of_getElem? hx)) 1 (by omega)
    obtain ⟨A2, q2, E2, -⟩ := (HD6.out.2 x (List.mem_of_getElem? hx)) 2 (by omega)
    obtain ⟨A3, q3, E3, -⟩ := (HD6.out.2 x (List.mem_of_getElem? hx)) 3 (by omega)
    rw [E0] at c1
    rw [E1] at c2
    rw [E2] at c3
    rw [E3] at c4
    have HC : Hid (x.d.cells = #[.int .i64 x.d.par, .slice A0 (x.rl 0).length q0, .slice A1 (x.rl 1).length q1, .slice A2 (x.rl 2).length q2, .slice A3 (x.rl 3).length q3, .int .i64 (x.d.df 0), .int .i64 (x.d.df 1), .int .i64 (x.d.df 2), .int .i64 (x.d.df 3), .int .i64 (x.d.df 4), .int .i64 (x.d.df 5), .int .i64 x.d.wd, .int .i64 x.d.ws]) := hide (by simp only [PD.cells, E0, E1, E2, E3])
    clear humk hx E0 E1 E2 E3
    go_upto_region 9 with (fail)
    rw [← HC.out]
    have hb : Blk (w6.alloc (.cells x.d.cells 33)) w6.heap.size 33 x.d.cells := Blk.new _ _ _
    have hf67 : Fr [] w6 (w6.alloc (.cells x.d.cells 33)) := (Fr.refl _ _).alloc _
    clear c0 c1 c2 c3 c4 c5 c6 c7 c8 c9 c10 c11 c12
    generalize w6.alloc (.cells x.d.cells 33) = w7 at hb hf67 ⊢
    have HB := hide hb
    have HOX : Hid (∀ q, q < 4 → w7.ownsRow w.heap.size 3 1 (x.d.rf q) (x.rl q).length ((x.rl q).map (Value.int .i64)) ∧ ∀ b, (x.d.rf q).ownBlock = some b → b < w6.heap.size) := hide (fun q hq => ⟨own_fr (HRA6.out x (List.mem_of_getElem? HX.out) q hq) hf67 (fun _ _ => by simp), fun b hb => (own_block (HRA6.out x (List.mem_of_getElem? HX.out) q hq) hb).2.1⟩)
    have hgb : w.heap.size ≤ w6.heap.size := hf06.size
    have hg7 := hb.lt
    have HLX := hide (HL2.out x (List.mem_of_getElem? HX.out))
    have HOWN7 := hide (own_fr HOWN6.out hf67 (fun _ _ => by simp))
    have HOB7 : Hid (∀ b, (Value.slice (some ⟨ob, oo, none⟩) out.length cb).ownBlock = some b → b < w6.heap.size) := hide (fun b hb => (own_block HOWN6.out hb).2.1)
    have HRA7 : Hid (∀ y ∈ out, OwnRails w7 w.heap.size y.d y.rl ∧ ∀ q, q < 4 → ∀ b, (y.d.rf q).ownBlock = some b → b < w6.heap.size) := hide (fun y hy => ⟨fun q hq => own_fr (HRA6.out y hy q hq) hf67 (fun _ _ => by simp), fun q hq b hb => (own_block (HRA6.out y hy q hq) hb).2.1⟩)
    have hf07 := hf06.call hf67
    clear hb HOWN6 HRA6 HD6 hf67 hf06 hbl HC hf26
    generalize w6.heap.size = g at HB HOX hgb hg7 HOB7 HRA7 ⊢
    clear w6
    go_upto_block 0 with (fail)
    generalize how.tmod 6 = r
    go_cut [] from 50 to 92 (fun wx => CkCut w7 w.heap.size g wx)
    case first =>
      have HKEEP : Hid (∀ (o : Nat) (u : Value), OwnRails (w7.setCell ⟨g, o, none⟩ u) w.heap.size x.d x.rl) := hide (fun o u q hq => own_fr (HOX.out q hq).1 ((Fr.refl [g] _).set (.inl (by simp)) _) (fun b hb hm => by
        have := (HOX.out q hq).2 b hb
        have := List.mem_singleton.1 hm
        omega))
      have d0 := HB.out.cell 0
      have d11 := HB.out.cell 11
      have d12 := HB.out.cell 12
      have f0 := HB.out.frozen 0
      have f11 := HB.out.frozen 11
      have f12 := HB.out.frozen 12
      simp only [PD.cells, List.getElem?_toArray, List.getElem?_cons_zero, List.getElem?_cons_succ] at d0 d11 d12
      by_cases e0 : r = 0
      · have b0 : (r == 0) = true := by simp [e0]
        clear e0
        go_wp2_with fail
        go_meet
        exact CkCut.mk (HB.out.set_ _ _) (setPar _ _) (HKEEP.out _ _) rfl HLX.out ((Fr.refl _ _).set (.inl (by simp)) _)
      have b0 : (r == 0) = false := by simp [e0]
      by_cases e1 : r = 1
      · have b1 : (r == 1) = true := by simp [e1]
        clear e0 e1
        go_wp2_with fail
        refine (mod_int v 6 w7 (by omega) (by omega)).mono ?_
        rintro e w' ⟨rfl, rfl⟩
        rw [show (6 : Int).toNat = 6 from rfl]
        have hj := umod_lt v (show 0 < 6 by omega)
        generalize umod v 6 = j at hj ⊢
        have hji : (j : Int) < 6 := by omega
        have hj0 : (0 : Int) ≤ (j : Int) := by omega
        have cj : w7.cell? ⟨g, 5 + j, none⟩ = some (.int .i64 (x.d.df j)) := (HB.out.cell (5 + j)).trans (PD.deep x.d hj)
        have fj := HB.out.frozen (5 + j)
        go_wp2_with fail
        refine (mod_int k 7 w7 (by omega) (by omega)).mono ?_
        rintro e w' ⟨rfl, rfl⟩
        rw [show (7 : Int).toNat = 7 from rfl]
        go_wp2_with fail
        go_meet
        exact CkCut.mk (HB.out.set_ _ _) (setDf _ hj _) (HKEEP.out _ _) rfl HLX.out ((Fr.refl _ _).set (.inl (by simp)) _)
      have b1 : (r == 1) = false := by simp [e1]
      by_cases e2 : r = 2
      · have b2 : (r == 2) = true := by simp [e2]
        clear e0 e1 e2
        go_wp2_with fail
        refine (mod_int v 8 w7 (by omega) (by omega)).mono ?_
        rintro e w' ⟨rfl, rfl⟩
        go_wp2_with fail
        go_meet
        exact CkCut.mk (HB.out.set_ _ _) (setWs _ _) (HKEEP.out _ _) rfl HLX.out ((Fr.refl _ _).set (.inl (by simp)) _)
      have b2 : (r == 2) = false := by simp [e2]
      by_cases e3 : r = 3
      · have b3 : (r == 3) = true := by simp [e3]
        clear e0 e1 e2 e3
        go_wp2_with fail
        refine (mod_int v 7 w7 (by omega) (by omega)).mono ?_
        rintro e w' ⟨rfl, rfl⟩
        go_wp2_with fail
        go_meet
        exact CkCut.mk (HB.out.set_ _ _) (setWd _ _) (HKEEP.out _ _) rfl HLX.out ((Fr.refl _ _).set (.inl (by simp)) _)
      have b3 : (r == 3) = false := by simp [e3]
      by_cases e4 : r = 4
      · have b4 : (r == 4) = true := by simp [e4]
        clear e0 e1 e2 e3 e4
        go_wp2_with fail
        refine (mod_int k 4 w7 (by omega) (by omega)).mono ?_
        rintro e w' ⟨rfl, rfl⟩
        rw [show (4 : Int).toNat = 4 from rfl]
        have hj := umod_lt k (show 0 < 4 by omega)
        generalize humj : umod k 4 = j at hj ⊢
        have HUJ := hide humj
        clear humj
        have hji : (j : Int) < 4 := by omega
        have hj0 : (0 : Int) ≤ (j : Int) := by omega
        obtain ⟨Aj, qj, ej, -, rj, -⟩ := own_slice (HOX.out j hj).1
        have HRJ := hide rj
        have cj : w7.cell? ⟨g, 1 + j, none⟩ = some (.slice Aj (x.rl j).length qj) := by rw [← ej]; exact (HB.out.cell (1 + j)).trans (PD.rail x.d hj)
        have fj := HB.out.frozen (1 + j)
        have hlj : (x.rl j).length ≤ 3 := HL3.out x (List.mem_of_getElem? HX.out) j
        clear rj ej d0 d11 d12 f0 f11 f12
        go_wp2_with fail
        have hf78 : Fr [] w7 (w7.alloc (.cells #[] 3)) := (Fr.refl _ _).alloc _
        have HO8 : Hid ((w7.alloc (.cells #[] 3)).ownsRow w.heap.size 3 1 (.slice (some ⟨w7.heap.size, 0, none⟩) 0 0) 0 []) := hide (by
          have := own_new w7 (base := w.heap.size) (e := 3) (size := 1) (n := 0) (c := 0) (cs := #[]) hf07.size rfl (by omega) (by simp [maxLen])
          simpa using this)
        generalize w7.alloc (.cells #[] 3) = w8 at hf78 HO8 ⊢
        obtain ⟨g8, hg8⟩ : ∃ g8, g8 = w7.heap.size := ⟨_, rfl⟩
        rw [← hg8] at HO8 ⊢
        have HG8 := hide hg8
        clear hg8
        refine (mod_int k 4 w8 (by omega) (by omega)).mono ?_
        rintro e w' ⟨rfl, rfl⟩
        rw [show (4 : Int).toNat = 4 from rfl, HUJ.out]
        have cj8 := hf78.cell cj (by simp)
        have hz8 : w.heap.size ≤ w8.heap.size := Nat.le_trans hf07.size hf78.size
        clear cj fj
        go_wp2_with (first
          | (at_builtin
             refine wpList_append_row _ rfl (.tmp 79) (.tmp 84) _ rfl w.heap.size 3 i0 (.int .i64 0) 1 8 Try.underlying29 HI.out.1 HI.out.2.1 HI.out.2.2.1 HI.out.2.2.2 rfl (by omega) (.slice (some ⟨g8, 0, none⟩) 0 0) 0 [] rfl
               HO8.out Aj (x.rl j).length qj ((x.rl j).map (Value.int .i64)) rfl (by simp) (HRJ.out.fr0 hf78) (by intro u hu; obtain ⟨y, -, rfl⟩ := List.mem_map.1 hu; rfl) (by simp only [maxLen]; omega) (by omega) hz8 ?_
             intro v1 w9 hown9 hg9 hat9))
        simp only [Nat.zero_add, List.nil_append] at hown9
        obtain ⟨A9, c9, rfl, -, -, -⟩ := own_slice hown9
        have hf79 : Fr [] w7 w9 := hf78.grown hg9 (fun y hy => .inr (by
          have e : g8 = y := by simpa [Value.ownBlock] using hy
          rw [← e, HG8.out]
          exact Nat.le_refl _))
        have HO9 := hide hown9
        have HA9 : Hid (∀ b, (Value.slice A9 (x.rl j).length c9).ownBlock = some b → w7.heap.size ≤ b) := hide (fun b hb => by
          have hs8 : w7.heap.size ≤ w8.heap.size := hf78.size
          rcases hat9 with h | h
          · rw [h] at hb
            have e : g8 = b := by simpa [Value.ownBlock] using hb
            rw [← e, HG8.out]
            exact Nat.le_refl _
          · rw [h] at hb
            have e : w8.heap.size = b := by simpa using hb
            omega)
        clear hown9 hg9 hat9 cj8
        refine (mod_int v 8 w9 (by omega) (by omega)).mono ?_
        rintro e w' ⟨rfl, rfl⟩
        rw [show (8 : Int).toNat = 8 from rfl]
        have hz9 : w.heap.size ≤ w9.heap.size := Nat.le_trans hf07.size hf79.size
        go_wp2_with (first
          | (at_builtin
             refine wpList_append_row _ rfl (.tmp 85) (.tmp 89) _ rfl w.heap.size 3 i0 (.int .i64 0) 1 8 Try.underlying29 HI.out.1 HI.out.2.1 HI.out.2.2.1 HI.out.2.2.2 rfl (by omega) (.slice A9 (x.rl j).length c9) (x.rl j).length ((x.rl j).map (Value.int .i64)) rfl
               (own_fr HO9.out ((Fr.refl [] _).alloc _) (fun _ _ => by simp)) (some ⟨w9.heap.size, 0, none⟩) 1 1 [.int .i64 (wrap64 ((umod v 8 : Int) - 1))] rfl rfl (row_one w9 _ _) (by intro u hu; simp at hu; subst hu; rfl) (by simp only [maxLen]; omega) (by omega) (by simp; omega) ?_
             intro v1 w10 hown10 hg10 hat10
             have hf710 : Fr [] w7 w10 := (hf79.alloc _).grown hg10 (fun y hy => .inr (HA9.out y hy))
             have HB10 := hide (HB.out.fr hf710 (by simp))
             obtain ⟨A10, c10, rfl, -, -, -⟩ := own_slice hown10
             have cj : w10.cell? ⟨g, 1 + j, none⟩ = some (x.d.rf j) := (HB10.out.cell (1 + j)).trans (PD.rail x.d hj)
             have fj := HB10.out.frozen (1 + j)
             have HO10 := hide hown10
             have HT10 := hide hat10
             clear hown10 hat10 hg10))
        have HN10 : Hid (∀ b, (Value.slice A10 ((x.rl j).length + 1) c10).ownBlock = some b → b ≠ g) := hide (fun b hb => by
          have h1 := hf79.size
          have h2 : (w9.alloc (.cells #[.int .i64 (wrap64 ((umod v 8 : Int) - 1))] 3)).heap.size = w9.heap.size + 1 := by simp
          rcases HT10.out with h | h
          · rw [h] at hb
            have := HA9.out b hb
            omega
          · rw [h, h2] at hb
            have e : w9.heap.size + 1 = b := by simpa using hb
            omega)
        go_meet
        refine CkCut.mk (HB10.out.set_ _ _) (setRf _ hj _) (E := { x.d with rf := upd x.d.rf j _ }) (rl := upd x.rl j (x.rl j ++ [wrap64 ((umod v 8 : Int) - 1)])) ?_ rfl ?_ ((hf710.mono (fun _ _ h => by simp at h)).set (.inl (by simp)) _)
        · intro q hq
          by_cases e : q = j
          · subst e
            simp only [upd, if_pos, List.length_append, List.length_singleton, List.map_append, List.map_cons, List.map_nil]
            exact own_fr HO10.out ((Fr.refl [g] _).set (.inl (by simp)) _) (fun b hb hm => HN10.out b hb (List.mem_singleton.1 hm))
          · simp only [upd, if_neg e]
            refine own_fr (own_fr (HOX.out q hq).1 hf710 (fun _ _ => by simp)) ((Fr.refl [g] _).set (.inl (by simp)) _) (fun b hb hm => ?_)
            have := (HOX.out q hq).2 b hb
            have := List.mem_singleton.1 hm
            omega
        · intro q
          unfold upd
          split
          · rw [List.length_append, List.length_singleton]
            omega
          · exact HLX.out q
      have b4 : (r == 4) = false := by simp [e4]
      clear e0 e1 e2 e3 e4
      go_wp2_with fail
      go_meet
      exact ⟨x.d, x.rl, HB.out, fun q hq => (HOX.out q hq).1, HLX.out, Fr.refl _ _⟩
    case rest =>
      obtain ⟨D, rl, hblk, hor, hlr, hfx⟩ := hcut
      have HOWN8 := hide (own_fr HOWN7.out hfx (fun b hb hm => by
        have := HOB7.out b hb
        have := List.mem_singleton.1 hm
        omega))
      have HRA8 : Hid (∀ y ∈ out, OwnRails wc w.heap.size y.d y.rl) := hide (fun y hy q hq => own_fr ((HRA7.out y hy).1 q hq) hfx (fun b hb hm => by
        have := (HRA7.out y hy).2 q hq b hb
        have := List.mem_singleton.1 hm
        omega))
      have HOR := hide hor
      have HLR := hide hlr
      have HBK := hide hblk
      have hf08 : Fr [] w wc := hf07.step hfx (fun i hi => .inr (by rw [List.mem_singleton.1 hi]; exact hgb))
      obtain ⟨A0, q0, E0, -⟩ := own_slice (hor 0 (by omega))
      obtain ⟨A1, q1, E1, -⟩ := own_slice (hor 1 (by omega))
      obtain ⟨A2, q2, E2, -⟩ := own_slice (hor 2 (by omega))
      obtain ⟨A3, q3, E3, -⟩ := own_slice (hor 3 (by omega))
      have c0 := hblk.cell 0
      have c1 := hblk.cell 1
      have c2 := hblk.cell 2
      have c3 := hblk.cell 3
      have c4 := hblk.cell 4
      have c5 := hblk.cell 5
      have c6 := hblk.cell 6
      have c7 := hblk.cell 7
      have c8 := hblk.cell 8
      have c9 := hblk.cell 9
      have c10 := hblk.cell 10
      have c11 := hblk.cell 11
      have c12 := hblk.cell 12
      simp only [PD.cells, E0, E1, E2, E3, List.getElem?_toArray, List.getElem?_cons_zero, List.getElem?_cons_succ] at c0 c1 c2 c3 c4 c5 c6 c7 c8 c9 c10 c11 c12
      have HC9 : Hid (D.cells = #[.int .i64 D.par, .slice A0 (rl 0).length q0, .slice A1 (rl 1).length q1, .slice A2 (rl 2).length q2, .slice A3 (rl 3).length q3, .int .i64 (D.df 0), .int .i64 (D.df 1), .int .i64 (D.df 2), .int .i64 (D.df 3), .int .i64 (D.df 4), .int .i64 (D.df 5), .int .i64 D.wd, .int .i64 D.ws]) := hide (by simp only [PD.cells, E0, E1, E2, E3])
      have HOBW : Hid (w.heap.size ≤ ob) := hide (own_block HOWN8.out (show (Value.slice (some ⟨ob, oo, none⟩) out.length cb).ownBlock = some ob by simp [Value.ownBlock])).1
      have HOLT : Hid (ob < g) := hide (HOB7.out ob (by simp [Value.ownBlock]))
      clear hblk hor hlr hfx HOWN7 HRA7 HOX HB HOB7 hf07 E0 E1 E2 E3
      obtain ⟨cur, cap, HOO, HBO, hcc, hcs, hct⟩ : ∃ cur cap, Hid (oo = 0) ∧ Hid (Blk wc ob 33 cur) ∧ out.length ≤ cap ∧ cur.size = cap * 13 ∧ Hid (cur.toList.take (out.length * 13) = dvcs out) := by
        rcases HOWN8.out.2 with ⟨h1, _⟩ | ⟨g', cap, cur, hv, _, hh, hn, _, hsz, hx⟩
        · cases h1
        · injection hv with hv
          injection hv with hv
          injection hv with h1 h2
          subst h1 h2
          exact ⟨cur, cap, hide rfl, hide hh, hn, hsz, hide hx⟩
      have hbg : ob ≠ g := by
        intro e
        subst e
        exact absurd HOLT.out (Nat.lt_irrefl _)
      have hgob : g ∉ [ob] := by simp; exact fun e => hbg e.symm
      have HMK : Hid (∀ wz : World, Calls Try.prog 10 #[.int .i64 k, .int .i64 (out.length : Int)] wz fun e w' => e = .returned (.int .i64 (i : Int)) ∧ wz = w') := hide (fun wz => (mod_any k out.length wz h0 (by omega)).mono fun e w' ⟨h1, h2⟩ => ⟨by rw [h1, HUK.out], h2⟩)
      go_upto_region 20 with (fail)
      go_still_tail 7, (by kernel_rfl)
      still_call ((HMK.out _).mono fun _ _ ⟨h, k⟩ => ⟨h, k.symm⟩)
      repeat still_step
      refine wpStill_nil ?_
      refine wpList_store_row _ rfl (.tmp 99) (.tmp 98) 33 rfl ob (oo + i * 13) #[.int .i64 D.par, .slice A0 (rl 0).length q0, .slice A1 (rl 1).length q1, .slice A2 (rl 2).length q2, .slice A3 (rl 3).length q3, .int .i64 (D.df 0), .int .i64 (D.df 1), .int .i64 (D.df 2), .int .i64 (D.df 3), .int .i64 (D.df 4), .int .i64 (D.df 5), .int .i64 D.wd, .int .i64 D.ws] rfl rfl pd_size cur 33 (by exact HBO.out) (by have := HOO.out; simp; omega) (by intro u hu; simp at hu; rcases hu with rfl | rfl | rfl | rfl | rfl | rfl | rfl | rfl | rfl | rfl | rfl | rfl | rfl <;> rfl) ?_
      intro w9 hb9 hf9
      have hfc9 : Fr [ob] wc w9 := ⟨hf9.os, hf9.tape, hf9.output, hf9.size, hf9.block⟩
      rw [← HC9.out] at hb9
      have HB9 := hide hb9
      have HCC := hide (And.intro hcc hcs)
      clear hb9 hf9 HBK c0 c1 c2 c3 c4 c5 c6 c7 c8 c9 c10 c11 c12 hcc hcs
      have HOWR : Hid (∀ (E : PD) (r : Nat → List Int), OwnRails wc w.heap.size E r → RailsAt w9 E r) := hide (fun E r hE => by
        refine OwnRails.at_ (base := w.heap.size) (fun q hq => own_fr (hE q hq) hfc9 (fun b hb hm => ?_))
        obtain ⟨cs', hcs'⟩ := (own_block (hE q hq) hb).2.2
        rw [List.mem_singleton.1 hm] at hcs'
        exact Blk.ne_ HBO.out hcs' (by decide) rfl)
      have HD9 : Hid (DvsAt w9 (some ⟨ob, oo, none⟩) (out.set i ⟨D, rl⟩)) := hide (by
        have h9 := HB9.out
        rw [HOO.out, Nat.zero_add] at h9
        rw [HOO.out]
        refine ⟨dvs_set (z := ⟨D, rl⟩) h9 HCC.out.1 HCC.out.2 hct.out hi, fun x hx => ?_⟩
        rcases List.mem_or_eq_of_mem_set hx with h | h
        · exact HOWR.out _ _ (HRA8.out x h)
        · rw [h]; exact HOWR.out _ _ HOR.out)
      have HL9 : Hid (∀ x ∈ out.set i ⟨D, rl⟩, ∀ k, (x.rl k).length ≤ 4096) := hide (fun x hx k => by
        rcases List.mem_or_eq_of_mem_set hx with h | h
        · exact HL2.out x h k
        · rw [h]; exact HLR.out k)
      have hf09 : Fr [] w w9 := hf08.step hfc9 (fun i hi => .inr (by rw [List.mem_singleton.1 hi]; exact HOBW.out))
      have hl9 : (out.set i ⟨D, rl⟩).length = out.length := List.length_set
      have HL9' := hide hl9
      generalize hO : out.set i ⟨D, rl⟩ = O at HD9 HL9 hl9
      rw [← hl9]
      have hlO : O.length ≤ 6 := by omega
      clear hO hl9 HL9'
      go_wp2_with fail
      refine (check27_any (some ⟨ob, oo, none⟩) cb O M w9 HD9.out HL9.out (by unfold maxLen; omega)).mono ?_
      rintro e w10 ⟨rfl, hf10⟩
      go_wp2_with fail
      refine (rcheck27_any (some ⟨ob, oo, none⟩) cb O M w10 (HD9.out.fr0 hf10) HL9.out (by unfold maxLen; omega)).mono ?_
      rintro e w11 ⟨rfl, hf11⟩
      go_wp2_with fail
      refine (awake27_any w11).mono ?_
      rintro e w12 ⟨rfl, hf12⟩
      go_wp2
      go_ret
      exact ⟨rfl, ((hf09.call hf10).call hf11).call hf12⟩
  · have h0' : ¬ (0 : Int) < (out.length : Int) := by omega
    go_wp2_with fail
    refine (check27_any B cb out M w6 HD6.out HL2.out (by unfold maxLen; omega)).mono ?_
    rintro e w7 ⟨rfl, hf7⟩
    go_wp2_with fail
    refine (rcheck27_any B cb out M w7 (HD6.out.fr0 hf7) HL2.out (by unfold maxLen; omega)).mono ?_
    rintro e w8 ⟨rfl, hf8⟩
    go_wp2_with fail
    refine (awake27_any w8).mono ?_
    rintro e w9 ⟨rfl, hf9⟩
    go_wp2
    go_ret
    exact ⟨rfl, ((hf06.call hf7).call hf8).call hf9⟩
end Go.Proofs.Ytmkbahmjickoiaa
