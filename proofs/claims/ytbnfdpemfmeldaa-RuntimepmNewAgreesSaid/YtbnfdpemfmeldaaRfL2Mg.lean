/- The law RuntimepmNewAgrees, walked. -/
import Derived.Test.YtbnfdpemfmeldaaMgRuntimeNew4
import Derived.Test.YtbnfdpemfmeldaaRpmP6Mg
import Derived.Test.YtbnfdpemfmeldaaRfNMg
import Derived.Test.YtbnfdpemfmeldaaRfSMg
namespace Go.Proofs.Ytbnfdpemfmeldaa
open Go.RowKit

def NaCut (w : World) (A5 : Option Addr) (n : Nat) (wx : World) : Prop := ∃ out : List ID, out.length = n ∧ IdsAt wx A5 out ∧ (∀ x ∈ out, x.sup.length ≤ 21) ∧ Fr [] w wx
theorem NewRet.shape {w w' : World} {l : List ID} {e : Ending} (h : NewRet w l e w') : ∃ p, e = .returned (.tuple #[.pointer p, .int .i64 (newE l)]) ∧ ((p = none ∧ newE l ≠ 0) ∨ ∃ a, p = some a ∧ newE l = 0) ∧ Fr [] w w' := by
  rcases h with ⟨h1, h2, h3⟩ | ⟨h1, P, h2, -, -, -, h3⟩
  · exact ⟨none, h2, .inl ⟨rfl, h1⟩, h3⟩
  · exact ⟨_, by rw [h1]; exact h2, .inr ⟨_, rfl, h1⟩, h3⟩
theorem RNewRet.shape {w w' : World} {A : Option Addr} {l : List ID} {e : Ending} (h : RNewRet w A l e w') : ∃ p, e = .returned (.tuple #[.pointer p, .int .i64 (newE l)]) ∧ ((p = none ∧ newE l ≠ 0) ∨ ∃ a, p = some a ∧ newE l = 0) ∧ Fr [] w w' := by
  rcases h with ⟨h1, h2, h3⟩ | ⟨h1, P, h2, -, -, -, -, -, h3⟩
  · exact ⟨none, h2, .inl ⟨rfl, h1⟩, h3⟩
  · exact ⟨_, by rw [h1]; exact h2, .inr ⟨_, rfl, h1⟩, h3⟩
theorem idcs_sv (u : Value) (sup : List Int) : ∀ {l : List ID} {k : Nat} {d : ID}, l[k]? = some d → (idcs l).set (k * 3 + 1) u = idcs (l.set k { d with sv := u, sup := sup })
  | [], k, d, h => by cases h
  | a :: l, 0, d, h => by
    injection h with h
    subst h
    rfl
  | a :: l, k + 1, d, h => by
    have ih := idcs_sv u sup (l := l) (k := k) (d := d) (by simpa using h)
    show (idc a ++ idcs l).set ((k + 1) * 3 + 1) _ = idc a ++ idcs (l.set k _)
    rw [← ih, List.set_append_right _ _ (by rw [idc_len]; omega), idc_len]
    congr 2
    omega
set_option maxHeartbeats 8000000 in
set_option maxRecDepth 100000 in
theorem newAgrees_walk (A : Option Addr) (cp : Nat) (raw : List ID) (k s : Int) (w : World) (hr : Row w A (idcs raw)) (hw : ∀ x ∈ raw, IdWf w x) (hm : raw.length ≤ maxLen) :
    Calls Try.prog 3 #[.slice A raw.length cp, .int .i64 k, .int .i64 s] w fun e w' => e = .returned (.bool true) ∧ Fr [] w w' := by
  have HR : Hid (IdsAt w A raw) := hide ⟨hr, fun x hx => (hw x hx).at_⟩
  obtain ⟨i1, hi10, hz10, hz11, hz12⟩ := info_parts int_info1
  have HI1 := hide (And.intro hi10 (And.intro hz10 (And.intro hz11 hz12)))
  clear hi10 hz10 hz11 hz12 hr hw
  go_enter Try.func3, Try.ntmps3
  go_wp2_with fail
  refine (large28_any A none cp 0 0 raw w HR.out hm (by unfold maxLen; omega)).mono ?_
  rintro e w1 ⟨big, rfl, hlg, rfl⟩
  cases big with
  | true =>
    go_wp2_with fail
    refine (awake28_any w).mono ?_
    rintro e w7 ⟨rfl, hf7⟩
    go_wp2
    go_ret
    exact ⟨rfl, hf7⟩
  | false =>
  obtain ⟨hr20, -, hs20⟩ := hlg rfl
  have HS20 := hide hs20
  clear hlg hs20 hm
  go_wp2_with fail
  refine (some28_apt A cp raw w HR.out hr20 HS20.out).mono ?_
  rintro e w2 ⟨v2, out, rfl, hown, hsup, hdev, hap, hf2⟩
  obtain ⟨A5, c5, rfl, -, -, -⟩ := own_slice hown
  have HOWN := hide hown
  have HSUP := hide hsup
  have HDEV := hide hdev
  have HAP := hide hap
  clear hap
  have ho8 := hdev.len
  clear hown hsup hdev
  obtain ⟨n, hn⟩ : ∃ n, n = out.length := ⟨_, rfl⟩
  rw [← hn] at ho8 ⊢
  have HNE := hide hn
  clear hn
  go_upto_if 24 with (fail)
  go_cut [] (fun wx => NaCut w A5 n wx)
  case first =>
    by_cases h0 : 0 < n
    · have h0i : (0 : Int) < (n : Int) := by omega
      go_wp2_with fail
      refine (mod_any k n w2 h0 (by omega)).mono ?_
      rintro e w3 ⟨rfl, rfl⟩
      have hil := umod_lt k h0
      generalize umod k n = i at hil ⊢
      obtain ⟨d, hd⟩ : ∃ d, out[i]? = some d := ⟨_, List.getElem?_eq_getElem (by rw [← HNE.out]; exact hil)⟩
      have hii : (i : Int) < (n : Int) := by omega
      obtain ⟨g, rfl, hgb, hgl, hcell, hfroz⟩ := own_at HOWN.out (by rw [← HNE.out]; exact h0)
      obtain ⟨Ad, cd, hsv, -, hrd, -⟩ := own_slice (HSUP.out d (List.mem_of_getElem? hd))
      have c1 : w2.cell? ⟨g, i * 3 + 1, none⟩ = some (.slice Ad d.sup.length cd) := by
        rw [← hsv]
        exact hcell (i * 3 + 1) _ (flat_get (f := idc) idc_len hd (j := 1) (by omega))
      have f1 := hfroz (i * 3 + 1)
      have HSD : Hid (w2.ownsRow w.heap.size 3 1 (.slice Ad d.sup.length cd) d.sup.length (d.sup.map (Value.int .i64))) := hide (by
        rw [← hsv]
        exact HSUP.out d (List.mem_of_getElem? hd))
      have hd20 := HDEV.out.sl i d hd
      have hw2 : IntKind.i64.wrap ((n : Int) + 2) = ((n + 2 : Nat) : Int) := by rw [IntWalk.i64_in _ (by omega)]; omega
      have HD := hide hd
      have HSV := hide hsv
      have HW := hide hf2.size
      clear hd hcell hfroz hrd hsv
      go_wp2
      refine wp_region_T (fun w' => w'.cell? ⟨g, i * 3 + 1, none⟩ = some (.slice Ad d.sup.length cd)) 17 (by kernel_rfl) ?_
      have hS : (fun w' : World => w'.cell? ⟨g, i * 3 + 1, none⟩ = some (.slice Ad d.sup.length cd)) { w2 with drawn := w2.drawn + 1 } := c1
      refine wpAnyT_take (i := 0) (v := ?v0) rfl (by kernel_rfl) (by kernel_rfl) (fun _ _ _ h => h) (Or.inl ⟨by rfl, ?hy0⟩) hS ?rest0
      case hy0 =>
        intro wz hSw
        have s0 := hSw
        go_simp
        try rfl
      try simp only [Act.put, List.setIfInBounds_toArray, List.set_cons_zero, List.set_cons_succ, List.getElem_toArray, List.getElem_cons_zero]
      refine wpAnyT_take (i := 1) (v := ?v1) rfl (by kernel_rfl) (by kernel_rfl) (fun _ _ _ h => h) (Or.inl ⟨by rfl, ?hy1⟩) hS ?rest1
      case hy1 =>
        intro wz hSw
        have s0 := hSw
        go_simp
        try rfl
      try simp only [Act.put, List.setIfInBounds_toArray, List.set_cons_zero, List.set_cons_succ, List.getElem_toArray, List.getElem_cons_zero, List.getElem_cons_succ]
      refine wpAnyT_take (i := 2) (v := ?v2) rfl (by kernel_rfl) (by kernel_rfl) (fun _ _ _ h => h) (Or.inl ⟨by rfl, ?hy2⟩) hS ?rest2
      case hy2 =>
        intro wz hSw
        have s0 := hSw
        go_simp
        try rfl
      try simp only [Act.put, List.setIfInBounds_toArray, List.set_cons_zero, List.set_cons_succ, List.getElem_toArray, List.getElem_cons_zero, List.getElem_cons_succ]
      refine wpAnyT_take (i := 3) (v := ?v3) rfl (by kernel_rfl) (by kernel_rfl) (fun _ _ _ h => h) (Or.inl ⟨by rfl, ?hy3⟩) hS ?rest3
      case hy3 =>
        intro wz hSw
        have s0 := hSw
        go_simp
        try rfl
      try simp only [Act.put, List.setIfInBounds_toArray, List.set_cons_zero, List.set_cons_succ, List.getElem_toArray, List.getElem_cons_zero, List.getElem_cons_succ]
      refine wpAnyT_take (i := 4) (v := ?v4) rfl (by kernel_rfl) (by kernel_rfl) (fun _ _ _ h => h) (Or.inl ⟨by rfl, ?hy4⟩) hS ?rest4
      case hy4 =>
        intro wz hSw
        have s0 := hSw
        go_simp
        try rfl
      try simp only [Act.put, List.setIfInBounds_toArray, List.set_cons_zero, List.set_cons_succ, List.getElem_toArray, List.getElem_cons_zero, List.getElem_cons_succ]
      refine wpAnyT_take (i := 5) (v := ?v5) rfl (by kernel_rfl) (by kernel_rfl) (fun _ _ _ h => h) (Or.inl ⟨by rfl, ?hy5⟩) hS ?rest5
      case hy5 =>
        intro wz hSw
        have s0 := hSw
        go_simp
        try rfl
      try simp only [Act.put, List.setIfInBounds_toArray, List.set_cons_zero, List.set_cons_succ, List.getElem_toArray, List.getElem_cons_zero, List.getElem_cons_succ]
      refine wpAnyT_take (i := 6) (v := ?v6) rfl (by kernel_rfl) (by kernel_rfl) (fun _ _ _ h => h) (Or.inl ⟨by rfl, ?hy6⟩) hS ?rest6
      case hy6 =>
        intro wz hSw
        have s0 := hSw
        go_simp
        try rfl
      try simp only [Act.put, List.setIfInBounds_toArray, List.set_cons_zero, List.set_cons_succ, List.getElem_toArray, List.getElem_cons_zero, List.getElem_cons_succ]
      refine wpAnyT_take (i := 7) (v := ?v7) rfl (by kernel_rfl) (by kernel_rfl) (fun _ _ _ h => h) (Or.inl ⟨by rfl, ?hy7⟩) hS ?rest7
      case hy7 =>
        intro wz hSw
        have s0 := hSw
        go_simp
        try rfl
      try simp only [Act.put, List.setIfInBounds_toArray, List.set_cons_zero, List.set_cons_succ, List.getElem_toArray, List.getElem_cons_zero, List.getElem_cons_succ]
      refine wpAnyT_take (i := 8) (v := ?v8) rfl (by kernel_rfl) (by kernel_rfl) (fun _ _ _ h => h) (Or.inl ⟨by rfl, ?hy8⟩) hS ?rest8
      case hy8 =>
        intro wz hSw
        have s0 := hSw
        go_simp
        try rfl
      try simp only [Act.put, List.setIfInBounds_toArray, List.set_cons_zero, List.set_cons_succ, List.getElem_toArray, List.getElem_cons_zero, List.getElem_cons_succ]
      refine wpAnyT_take (i := 9) (v := ?v9) rfl (by kernel_rfl) (by kernel_rfl) (fun _ _ _ h => h) (Or.inl ⟨by rfl, ?hy9⟩) hS ?rest9
      case hy9 =>
        intro wz hSw
        have s0 := hSw
        go_simp
        try rfl
      try simp only [Act.put, List.setIfInBounds_toArray, List.set_cons_zero, List.set_cons_succ, List.getElem_toArray, List.getElem_cons_zero, List.getElem_cons_succ]
      refine wpAnyT_take (i := 10) (v := ?v10) rfl (by kernel_rfl) (by kernel_rfl) (fun _ _ _ h => h) (Or.inl ⟨by rfl, ?hy10⟩) hS ?rest10
      case hy10 =>
        intro wz hSw
        have s0 := hSw
        go_simp
        try rfl
      try simp only [Act.put, List.setIfInBounds_toArray, List.set_cons_zero, List.set_cons_succ, List.getElem_toArray, List.getElem_cons_zero, List.getElem_cons_succ]
      clear hS
      refine wpAnyT_one (i := 11) (by kernel_rfl) rfl (by rfl) (fun K hK => ?_)
      go_simp
      refine (mod_int s ((n : Int) + 2) _ (by omega) (by omega)).mono ?_
      rintro e w' ⟨rfl, rfl⟩
      have hyl := umod_lt s (show 0 < ((n : Int) + 2).toNat by omega)
      generalize umod s ((n : Int) + 2).toNat = y at hyl ⊢
      have hyw : IntKind.i64.wrap ((y : Int) - 1) = (y : Int) - 1 := IntWalk.i64_in _ (by omega)
      refine hK _ _ (.inr c1) ?_
      try simp only [Act.put, List.setIfInBounds_toArray, List.set_cons_zero, List.set_cons_succ, List.getElem_toArray, List.getElem_cons_zero, List.getElem_cons_succ]
      refine wpAnyT_one (i := 12) (by kernel_rfl) rfl (by rfl) (fun K1 hK1 => ?_)
      go_simp
      refine hK1 _ _ (.inr c1) ?_
      try simp only [Act.put, List.setIfInBounds_toArray, List.set_cons_zero, List.set_cons_succ, List.getElem_toArray, List.getElem_cons_zero, List.getElem_cons_succ]
      have hf67 : Fr [] w2 ((w2.alloc (.cells #[.int .i64 ((y : Int) - 1)] 3)).drew) := ((Fr.refl _ _).alloc _).drew
      refine wpAnyT_one (i := 13) (by kernel_rfl) rfl (by rfl) (fun K2 hK2 => ?_)
      go_simp
      refine hK2 _ _ (.inr (hf67.cell c1 (by simp))) ?_
      try simp only [Act.put, List.setIfInBounds_toArray, List.set_cons_zero, List.set_cons_succ, List.getElem_toArray, List.getElem_cons_zero, List.getElem_cons_succ]
      refine wpAnyT_one (i := 14) (by kernel_rfl) rfl (by rfl) (fun K3 hK3 => ?_)
      refine wp_append_row _ (.tmp 35) (.tmp 42) 27 (by rfl) w.heap.size 3 i1 (.int .i64 0) 1 8 Try.underlying27 HI1.out.1 HI1.out.2.1 HI1.out.2.2.1 HI1.out.2.2.2 rfl (by omega) (.slice Ad d.sup.length cd) d.sup.length (d.sup.map (Value.int .i64)) (by rfl) (own_fr HSD.out hf67 (fun _ _ => by simp)) (some ⟨w2.heap.size, 0, none⟩) 1 1 [.int .i64 ((y : Int) - 1)] (by rfl) rfl ((row_one w2 _ _).fr0 (Fr.refl _ _).drew) (by intro u hu; rw [List.mem_singleton.1 hu]; rfl) (by simp only [maxLen]; omega) (by omega) (Nat.le_trans HW.out hf67.size) ?_
      intro v7 w7 hown7 hg7 hat7
      obtain ⟨A6, c6, rfl, -, -, -⟩ := own_slice hown7
      have hf7 : Fr (Value.slice Ad d.sup.length cd).ownBlock.toList w2 w7 := hf67.mono (fun _ _ h => by cases h) |>.trans (Fr.of_grown hg7)
      have hgn : g ∉ (Value.slice Ad d.sup.length cd).ownBlock.toList := fun hm => by
        obtain ⟨_, _, cs, hb2⟩ := own_block HSD.out (show (Value.slice Ad d.sup.length cd).ownBlock = some g by simpa using hm)
        obtain ⟨_, _, cs3, hb3⟩ := own_block HOWN.out (show (Value.slice (some ⟨g, 0, none⟩) out.length c5).ownBlock = some g from rfl)
        exact Blk.ne_ hb2 hb3 (by decide) rfl
      have g1 := hf7.cell c1 hgn
      have f7 : w7.frozen? ⟨g, i * 3 + 1, none⟩ = false := by rw [hf7.frozen (p := ⟨g, i * 3 + 1, none⟩) hgl hgn]; exact f1
      refine hK3 _ _ (.inr g1) ?_
      try simp only [Act.put, List.setIfInBounds_toArray, List.set_cons_zero, List.set_cons_succ, List.getElem_toArray, List.getElem_cons_zero, List.getElem_cons_succ]
      refine wpAnyT_one (i := 15) (by kernel_rfl) rfl (by rfl) (fun K4 hK4 => ?_)
      go_simp
      refine hK4 _ _ (.inr g1) ?_
      try simp only [Act.put, List.setIfInBounds_toArray, List.set_cons_zero, List.set_cons_succ, List.getElem_toArray, List.getElem_cons_zero, List.getElem_cons_succ]
      refine wpAnyT_one (i := 16) (by kernel_rfl) rfl (by rfl) (fun K5 hK5 => ?_)
      go_simp
      refine hK5 _ _ (.inr g1) ?_
      try simp only [Act.put, List.setIfInBounds_toArray, List.set_cons_zero, List.set_cons_succ, List.getElem_toArray, List.getElem_cons_zero, List.getElem_cons_succ]
      refine wpAnyT_one (i := 17) (by kernel_rfl) rfl (by rfl) (fun K6 hK6 => ?_)
      go_simp
      refine hK6 _ _ (.inl rfl) ?_
      try simp only [Act.put, List.setIfInBounds_toArray, List.set_cons_zero, List.set_cons_succ, List.getElem_toArray, List.getElem_cons_zero, List.getElem_cons_succ]
      refine wpAnyT_done (by kernel_rfl) ?_ _
      have HO7 := hide (own_keep HOWN.out HSD.out (by decide) hf7)
      have hset := own_set HO7.out (i := i * 3 + 1) (by rw [idcs_length, ← HNE.out]; omega) (.slice A6 (d.sup.length + 1) c6)
      rw [idcs_sv (.slice A6 (d.sup.length + 1) c6) (d.sup ++ [(y : Int) - 1]) HD.out] at hset
      have hf78 : Fr [g] w7 (w7.setCell ⟨g, i * 3 + 1, none⟩ (.slice A6 (d.sup.length + 1) c6)) := (Fr.refl _ _).set (.inl (by simp)) _
      have hfin : Fr [] w (w7.setCell ⟨g, i * 3 + 1, none⟩ (.slice A6 (d.sup.length + 1) c6)) := (hf2.step hf7 (fun j hj => .inr (own_block HSD.out (by simpa using hj)).1)).step hf78 (fun j hj => .inr (by rw [List.mem_singleton.1 hj]; exact hgb))
      have hgA6 : ∀ y, (Value.slice A6 (d.sup.length + 1) c6).ownBlock = some y → y ∉ [g] := fun y hy hm => by
        obtain ⟨_, _, cs, hb2⟩ := own_block hown7 hy
        obtain ⟨_, _, cs3, hb3⟩ := own_block HO7.out (show (Value.slice (some ⟨g, 0, none⟩) out.length c5).ownBlock = some g from rfl)
        exact Blk.ne_ hb2 hb3 (by decide) (List.mem_singleton.1 hm)
      have HFIN := hide (own_fr hown7 hf78 hgA6)
      clear c1 f1 f7 g1
      go_wp2
      go_meet
      refine ⟨out.set i { d with sv := .slice A6 (d.sup.length + 1) c6, sup := d.sup ++ [(y : Int) - 1] }, by rw [List.length_set, ← HNE.out], ⟨Row.of_own hset, fun x hx => ?_⟩, fun x hx => ?_, hfin⟩
      · obtain ⟨j, hj⟩ := List.getElem?_of_mem hx
        by_cases e : i = j
        · subst e
          have hio := (List.getElem?_eq_some_iff.1 HD.out).1
          rw [List.getElem?_set_self hio] at hj
          injection hj with hj
          subst hj
          refine ⟨A6, c6, by rw [List.length_append]; rfl, ?_⟩
          rw [List.map_append]
          exact Row.of_own (n := d.sup.length + 1) HFIN.out
        · rw [List.getElem?_set_ne e] at hj
          have hxo := HSUP.out x (List.mem_of_getElem? hj)
          have h7 := own_fr hxo hf7 (fun b hb hm => HAP.out j i x d (Ne.symm e) hj HD.out b hb (by rw [HSV.out]; simpa using hm))
          exact OwnSup.at_ (own_fr h7 hf78 (fun b hb hm => by
            obtain ⟨_, _, cs, hb2⟩ := own_block h7 hb
            obtain ⟨_, _, cs3, hb3⟩ := own_block HO7.out (show (Value.slice (some ⟨g, 0, none⟩) out.length c5).ownBlock = some g from rfl)
            exact Blk.ne_ hb2 hb3 (by decide) (List.mem_singleton.1 hm)))
      · rcases List.mem_or_eq_of_mem_set hx with hx | rfl
        · obtain ⟨j, hj⟩ := List.getElem?_of_mem hx
          have := HDEV.out.sl j x hj
          omega
        · show (d.sup ++ [(y : Int) - 1]).length ≤ 21
          rw [List.length_append, List.length_singleton]
          omega
    · have h0i : ¬ (0 : Int) < (n : Int) := by omega
      go_wp2
      go_meet
      refine ⟨out, HNE.out.symm, ⟨Row.of_own HOWN.out, fun x hx => OwnSup.at_ (HSUP.out x hx)⟩, fun x hx => ?_, hf2⟩
      obtain ⟨j, hj⟩ := List.getElem?_of_mem hx
      have := HDEV.out.sl j x hj
      omega
  case rest =>
    obtain ⟨out', hol, hids, hs21, hfc⟩ := hcut
    have HID := hide hids
    have hol8 : out'.length ≤ 8 := by omega
    clear hids HOWN HSUP HDEV HNE HAP hf2
    subst hol
    go_wp2_with fail
    refine (new28_any A cp raw wc (HR.out.fr0 hfc) hr20 (fun x hx => by have := HS20.out x hx; omega)).mono ?_
    rintro e w3 hn3
    obtain ⟨p3, rfl, hp3, hf3⟩ := hn3.shape
    go_wp2_with fail
    refine (rnew28_any A cp raw w3 ((HR.out.fr0 hfc).fr0 hf3) hr20 (fun x hx => by have := HS20.out x hx; omega)).mono ?_
    rintro e w4 hn4
    obtain ⟨p4, rfl, -, hf4⟩ := hn4.shape
    have hf34 := hf3.call hf4
    go_wp2_with fail
    refine (new28_any A5 c5 out' w4 (HID.out.fr0 hf34) (by omega) hs21).mono ?_
    rintro e w5 hn5
    obtain ⟨p5, rfl, hp5, hf5⟩ := hn5.shape
    have hf35 := hf34.call hf5
    go_wp2_with fail
    refine (rnew28_any A5 c5 out' w5 (HID.out.fr0 hf35) (by omega) hs21).mono ?_
    rintro e w6 hn6
    obtain ⟨p6, rfl, -, hf6⟩ := hn6.shape
    have hfin := hfc.call (hf35.call hf6)
    clear hn3 hn4 hn5 hn6 hf3 hf4 hf5 hf6 hf34 hf35
    have e1 : (newE raw == newE raw) = true := by simp
    have e2 : (newE out' == newE out') = true := by simp
    generalize newE raw = q1 at hp3 e1 ⊢
    generalize newE out' = q2 at hp5 e2 ⊢
    have hc1 : (p3 = none ∧ (q1 != 0) = true) ∨ (∃ a, p3 = some a ∧ (q1 != 0) = false) := by
      rcases hp3 with ⟨h1, h2⟩ | ⟨a, h1, h2⟩
      · exact .inl ⟨h1, by simp [h2]⟩
      · exact .inr ⟨a, h1, by simp [h2]⟩
    have hc2 : (p5 = none ∧ (q2 != 0) = true) ∨ (∃ a, p5 = some a ∧ (q2 != 0) = false) := by
      rcases hp5 with ⟨h1, h2⟩ | ⟨a, h1, h2⟩
      · exact .inl ⟨h1, by simp [h2]⟩
      · exact .inr ⟨a, h1, by simp [h2]⟩
    clear hp3 hp5
    rcases hc1 with ⟨rfl, h3⟩ | ⟨a3, rfl, h3⟩
    all_goals
      rcases hc2 with ⟨rfl, h5⟩ | ⟨a5, rfl, h5⟩
      all_goals
        go_wp2_with fail
        refine (awake28_any w6).mono ?_
        rintro e w7 ⟨rfl, hf7⟩
        go_wp2
        go_ret
        exact ⟨rfl, hfin.call hf7⟩
end Go.Proofs.Ytbnfdpemfmeldaa

