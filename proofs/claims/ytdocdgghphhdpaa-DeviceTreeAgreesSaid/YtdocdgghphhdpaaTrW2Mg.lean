/- Walks: device.Tree: Set. -/
import Derived.Test.YtdocdgghphhdpaaMgDeviceTree7
namespace Go.Proofs.Ytdocdgghphhdpaa
open Go.RowKit

theorem acqF_snoc (C : TC) (now : Nat) : ∀ (l : List Int) (v : Int) (r : RSt), acqF C now (l ++ [v]) r = ((addC C.R now v.toNat (C.ch v.toNat) { (acqF C now l r).1 with clk := now }).1, (acqF C now l r).2 ++ (addC C.R now v.toNat (C.ch v.toNat) { (acqF C now l r).1 with clk := now }).2)
  | [], v, r => by simp [acqF]
  | u :: l, v, r => by
    rw [List.cons_append, acqF, acqF_snoc C now l v, acqF]
    simp only [List.append_assoc]
theorem relF_snoc (C : TC) (now : Nat) : ∀ (l : List Int) (v : Int) (r : RSt), relF C now (l ++ [v]) r = ((remC C.n C.R now v.toNat (C.ch v.toNat) { (relF C now l r).1 with clk := now }).1, (relF C now l r).2 ++ (remC C.n C.R now v.toNat (C.ch v.toNat) { (relF C now l r).1 with clk := now }).2)
  | [], v, r => by simp [relF]
  | u :: l, v, r => by
    rw [List.cons_append, relF, relF_snoc C now l v, relF]
    simp only [List.append_assoc]
def SetRet (w : World) (T : TP) (ds : List DV) (C : TC) (r : TSt × List ROp × Int) (e : Ending) (w' : World) : Prop :=
  ∃ v, e = .returned (.tuple #[v, .int .i64 r.2.2]) ∧ TrAt w' T ds C r.1 ∧ w'.ownsRow w.heap.size 54 4 v r.2.1.length (ropcs r.2.1) ∧ Fr T.wr w w'
def SeRel1 (w : World) (C : TC) (s : TSt) (d k : Nat) (m : Nat) (i : Value) (wr : World) : Prop :=
  ∃ j : Nat, j ≤ C.nd ∧ i = .int .i64 (j : Int) ∧ (∀ q, q < j → ¬ (C.par q = (d : Int) ∧ s.st q < k)) ∧ Fr [] w wr ∧ m = C.nd - j
theorem SetRet.err {w w' : World} {T : TP} {ds : List DV} {C : TC} {s : TSt} {c : Int} {r : TSt × List ROp × Int} (hr : r = (s, [], c)) (h : TrAt w T ds C s) (k : Fr [] w w') : SetRet w T ds C r (.returned (.tuple #[.slice none 0 0, .int .i64 c])) w' := by
  subst hr
  exact ⟨_, rfl, h.fr0 k, own_nil _ _ _ _, k.mono (fun _ _ h => by cases h)⟩
theorem acqF_len {C : TC} (hC : TOk C) (now : Nat) : ∀ {l : List Int} {r : RSt}, (∀ v ∈ l, 0 ≤ v ∧ v < (C.n : Int)) → (acqF C now l r).2.length ≤ 65 * l.length
  | [], _, _ => by simp [acqF]
  | v :: l, r, h => by
    have h0 := h v (List.mem_cons_self ..)
    have h1 := add_len C.R now v.toNat (C.ch v.toNat) { r with clk := now }
    have h2 := (hC.ch v.toNat (by omega)).2
    have h3 := acqF_len hC now (l := l) (r := (addC C.R now v.toNat (C.ch v.toNat) { r with clk := now }).1) (fun v hv => h v (List.mem_cons_of_mem _ hv))
    rw [acqF]
    simp only [List.length_append, List.length_cons]
    omega
theorem relF_len {C : TC} (hC : TOk C) (now : Nat) : ∀ {l : List Int} {r : RSt}, (∀ v ∈ l, 0 ≤ v ∧ v < (C.n : Int)) → (relF C now l r).2.length ≤ 65 * l.length
  | [], _, _ => by simp [relF]
  | v :: l, r, h => by
    have h0 := h v (List.mem_cons_self ..)
    have h1 := rem_len C.n C.R now v.toNat (C.ch v.toNat) { r with clk := now }
    have h2 := (hC.ch v.toNat (by omega)).2
    have h3 := relF_len hC now (l := l) (r := (remC C.n C.R now v.toNat (C.ch v.toNat) { r with clk := now }).1) (fun v hv => h v (List.mem_cons_of_mem _ hv))
    rw [relF]
    simp only [List.length_append, List.length_cons]
    omega
theorem need_len {C : TC} (hC : TOk C) (i q : Nat) : (needL (C.rl i) q).length ≤ 64 := by
  unfold needL
  split
  · simp
  · exact hC.len i q
theorem ropcs_len (l : List ROp) : (ropcs l).length = l.length * 4 := flat_length (f := ropc) (fun _ => rfl) l
theorem ropcs_one (l : List ROp) : ∀ u ∈ ropcs l, u.oneCell' = true := by
  intro u hu
  obtain ⟨x, _, hx⟩ := List.mem_flatMap.1 hu
  simp only [ropc, List.mem_cons, List.not_mem_nil, or_false] at hx
  rcases hx with rfl | rfl | rfl | rfl <;> rfl
theorem ropcs_app (l u : List ROp) : ropcs (l ++ u) = ropcs l ++ ropcs u := List.flatMap_append
def SeRel2 (w3 : World) (T : TP) (ds : List DV) (C : TC) (s : TSt) (now : Nat) (acq : List Int) (m : Nat) (v16 v118 : Value) (wr : World) : Prop :=
  ∃ j : Nat, j ≤ acq.length ∧ v118 = .int .i64 (j : Int) ∧ TrAt wr T ds C { s with r := (acqF C now (acq.take j) s.r).1 } ∧ wr.ownsRow w3.heap.size 54 4 v16 (acqF C now (acq.take j) s.r).2.length (ropcs (acqF C now (acq.take j) s.r).2) ∧ Fr T.wr w3 wr ∧ m = acq.length - j
def SeRel3 (w3 : World) (T : TP) (ds : List DV) (C : TC) (s : TSt) (now : Nat) (rel : List Int) (r0 : RSt) (ops0 : List ROp) (m : Nat) (v16 v138 : Value) (wr : World) : Prop :=
  ∃ j : Nat, j ≤ rel.length ∧ v138 = .int .i64 (j : Int) ∧ TrAt wr T ds C { s with r := (relF C now (rel.take j) r0).1 } ∧ wr.ownsRow w3.heap.size 54 4 v16 (ops0 ++ (relF C now (rel.take j) r0).2).length (ropcs (ops0 ++ (relF C now (rel.take j) r0).2)) ∧ Fr T.wr w3 wr ∧ m = rel.length - j
theorem keepSet {wr w1 w2 : World} {a0 a1 a2 a3 a4 a5 a6 a7 a8 a9 a10 a11 a12 a13 a14 a15 : Addr} {v0 v1 v2 v3 v4 v5 v6 v7 v8 v9 v10 v11 v12 v13 v14 v15 : Value} (h : Fr [] wr w1 ∧ w1.cell? a0 = some v0 ∧ w1.cell? a1 = some v1 ∧ w1.cell? a2 = some v2 ∧ w1.cell? a3 = some v3 ∧ w1.cell? a4 = some v4 ∧ w1.cell? a5 = some v5 ∧ w1.cell? a6 = some v6 ∧ w1.cell? a7 = some v7 ∧ w1.cell? a8 = some v8 ∧ w1.cell? a9 = some v9 ∧ w1.cell? a10 = some v10 ∧ w1.cell? a11 = some v11 ∧ w1.cell? a12 = some v12 ∧ w1.cell? a13 = some v13 ∧ w1.cell? a14 = some v14 ∧ w1.cell? a15 = some v15) (k : Fr [] w1 w2) : Fr [] wr w2 ∧ w2.cell? a0 = some v0 ∧ w2.cell? a1 = some v1 ∧ w2.cell? a2 = some v2 ∧ w2.cell? a3 = some v3 ∧ w2.cell? a4 = some v4 ∧ w2.cell? a5 = some v5 ∧ w2.cell? a6 = some v6 ∧ w2.cell? a7 = some v7 ∧ w2.cell? a8 = some v8 ∧ w2.cell? a9 = some v9 ∧ w2.cell? a10 = some v10 ∧ w2.cell? a11 = some v11 ∧ w2.cell? a12 = some v12 ∧ w2.cell? a13 = some v13 ∧ w2.cell? a14 = some v14 ∧ w2.cell? a15 = some v15 := by
  obtain ⟨h, h0, h1, h2, h3, h4, h5, h6, h7, h8, h9, h10, h11, h12, h13, h14, h15⟩ := h
  exact ⟨h.call k, k.cell h0 (by simp), k.cell h1 (by simp), k.cell h2 (by simp), k.cell h3 (by simp), k.cell h4 (by simp), k.cell h5 (by simp), k.cell h6 (by simp), k.cell h7 (by simp), k.cell h8 (by simp), k.cell h9 (by simp), k.cell h10 (by simp), k.cell h11 (by simp), k.cell h12 (by simp), k.cell h13 (by simp), k.cell h14 (by simp), k.cell h15 (by simp)⟩
set_option maxHeartbeats 8000000 in
set_option maxRecDepth 100000 in
theorem tset_any {w : World} {T : TP} {ds : List DV} {C : TC} {s : TSt} (h : TrAt w T ds C s) (hC : TOk C) (hI : TInv C s) (d k : Int) (now : Nat) :
    Calls Try.prog 20 #[.pointer (some ⟨T.b, 0, none⟩), .int .i64 d, .int .i64 k, .int .u64 (now : Int)] w (SetRet w T ds C (setM C now d k s)) := by
  obtain ⟨i0, hi0, hz0, hz1, hz2⟩ := info_parts rop_info
  have HRI := hide (And.intro hi0 (And.intro hz0 (And.intro hz1 hz2)))
  have HAT := hide h
  have HC := hide hC
  have HI := hide hI
  clear hi0 hz0 hz1 hz2
  obtain ⟨c0, c1, c2, c3⟩ := h.cells
  by_cases hd : 0 ≤ d ∧ d < (C.nd : Int)
  case neg =>
    have HM : Hid (setM C now d k s = (s, [], 1)) := hide (by rw [setM, if_pos (.inl hd)])
    have HB := hide (decide_eq_false hd)
    clear h hC hI c0 c1 c2 c3 hd
    go_enter Try.func20, Try.ntmps20
    go_wp2_with fail
    refine (texists_any HAT.out d).mono ?_
    rintro e w1 ⟨rfl, rfl⟩
    rw [HB.out]
    go_wp2
    go_ret2
    exact SetRet.err HM.out HAT.out (Fr.refl _ _)
  by_cases hk : 0 ≤ k ∧ k ≤ 4
  case neg =>
    have HM : Hid (setM C now d k s = (s, [], 1)) := hide (by rw [setM, if_pos (.inr (.inl hk))])
    have HB := hide (decide_eq_true hd)
    have HB2 := hide (decide_eq_false hk)
    clear h hC hI c0 c1 c2 c3 hd hk
    go_enter Try.func20, Try.ntmps20
    go_wp2_with fail
    refine (texists_any HAT.out d).mono ?_
    rintro e w1 ⟨rfl, rfl⟩
    rw [HB.out]
    go_wp2_with fail
    refine (validState_any k w).mono ?_
    rintro e w1 ⟨rfl, rfl⟩
    rw [HB2.out]
    go_wp2
    go_ret2
    exact SetRet.err HM.out HAT.out (Fr.refl _ _)
  by_cases hn : now < s.clk ∨ MaxT < now
  · have HM : Hid (setM C now d k s = (s, [], 1)) := hide (by rw [setM, if_pos (.inr (.inr hn))])
    have HB := hide (decide_eq_true hd)
    have HB2 := hide (decide_eq_true hk)
    have hcase : (decide ((now : Int) < (s.clk : Int)) = true ∧ decide (now < s.clk) = true) ∨ (decide ((now : Int) < (s.clk : Int)) = false ∧ decide (now < s.clk) = false ∧ decide ((1152921504606846976 : Int) < (now : Int)) = true) := by
      unfold MaxT at hn
      simp only [decide_eq_true_eq, decide_eq_false_iff_not]
      omega
    clear h hC hI c0 c1 c2 hd hk hn
    rcases hcase with ⟨b1, b1n⟩ | ⟨b1, b1n, b2⟩
    all_goals
      go_enter Try.func20, Try.ntmps20
      go_wp2_with fail
      refine (texists_any HAT.out d).mono ?_
      rintro e w1 ⟨rfl, rfl⟩
      rw [HB.out]
      go_wp2_with fail
      refine (validState_any k w).mono ?_
      rintro e w1 ⟨rfl, rfl⟩
      rw [HB2.out]
      go_wp2
      go_ret2
      exact SetRet.err HM.out HAT.out (Fr.refl _ _)
  have HB := hide (decide_eq_true hd)
  have HB2 := hide (decide_eq_true hk)
  obtain ⟨d, rfl⟩ := Int.eq_ofNat_of_zero_le hd.1
  obtain ⟨k, rfl⟩ := Int.eq_ofNat_of_zero_le hk.1
  have hdn : d < C.nd := by omega
  have hk4 : k ≤ 4 := by omega
  have HM0 : Hid (setM C now (d : Int) (k : Int) s = if Blocked C s d k then (s, [], 9) else ((setOk C now d k s).1, (setOk C now d k s).2, 0)) := hide (by
    rw [setM, if_neg (by omega), Int.toNat_natCast, Int.toNat_natCast])
  have hn1 : s.clk ≤ now := by omega
  have hn2 : now ≤ 1152921504606846976 := by unfold MaxT at hn; omega
  have b1 : decide ((now : Int) < (s.clk : Int)) = false := decide_eq_false (by omega)
  have b1n : decide (now < s.clk) = false := decide_eq_false (by omega)
  have b2 : decide ((1152921504606846976 : Int) < (now : Int)) = false := decide_eq_false (by omega)
  obtain ⟨x, hx, hpx, hrx, hra, ob, oo, hA, hpd⟩ := h.dev hdn
  have HX := hide hx
  have HRX := hide hrx
  have HA := hide hA
  have hSS := (h.sS (by omega)).1
  have HSS := hide hSS
  rw [hA] at c0
  rw [hSS] at c1
  have p0 := hpd.1
  rw [hpx] at p0
  have hdi : (d : Int) < (C.nd : Int) := by omega
  have hnd64 := hC.nd64
  have hpar := hC.par d hdn
  clear h hC hI hd hk hn hx hpx hrx hra hA hpd hSS
  go_enter Try.func20, Try.ntmps20
  go_wp2_with fail
  refine (texists_any HAT.out (d : Int)).mono ?_
  rintro e w1 ⟨rfl, rfl⟩
  rw [HB.out]
  go_wp2_with fail
  refine (validState_any (k : Int) w).mono ?_
  rintro e w1 ⟨rfl, rfl⟩
  rw [HB2.out]
  clear HB HB2
  by_cases hpb : 0 ≤ C.par d ∧ k < s.st (C.par d).toNat
  · have HM : Hid (setM C now (d : Int) (k : Int) s = (s, [], 9)) := hide (by rw [HM0.out, if_pos (.inl hpb)])
    obtain ⟨p, hp⟩ := Int.eq_ofNat_of_zero_le hpb.1
    rw [hp, Int.toNat_natCast] at hpb
    rw [hp] at p0
    have hpn : p < C.nd := by omega
    have q0 := HAT.out.stAt hpn
    have g1 : decide ((0 : Int) ≤ (p : Int)) = true := decide_eq_true (by omega)
    have g2 : decide ((k : Int) < (s.st p : Int)) = true := decide_eq_true (by omega)
    have g2n : decide (k < s.st p) = true := decide_eq_true hpb.2
    have hpi : (p : Int) < (C.nd : Int) := by omega
    clear hpb hp hpar
    go_wp2
    go_ret2
    exact SetRet.err HM.out HAT.out (Fr.refl _ _)
  have hcase : (decide ((0 : Int) ≤ C.par d) = false) ∨ (∃ p : Nat, p < C.nd ∧ C.par d = (p : Int) ∧ s.st p ≤ k) := by
    by_cases h0 : 0 ≤ C.par d
    · obtain ⟨p, hp⟩ := Int.eq_ofNat_of_zero_le h0
      refine .inr ⟨p, by omega, hp, ?_⟩
      rw [hp, Int.toNat_natCast] at hpb
      omega
    · exact .inl (decide_eq_false h0)
  have HNP : Hid (Blocked C s d k ↔ ∃ i, i < C.nd ∧ C.par i = (d : Int) ∧ s.st i < k) := hide ⟨fun h => h.elim (fun h => absurd h hpb) id, .inr⟩
  clear hpb
  go_upto_region 4 with (fail)
  go_cut [10, 66] (fun _ v wx => v = .bool false ∧ w = wx)
  case first =>
    rcases hcase with g1 | ⟨p, hpn, hp, hle⟩
    · go_wp2
      go_meet
      exact ⟨rfl, rfl⟩
    · have q0 := HAT.out.stAt hpn
      have g1 : decide ((0 : Int) ≤ (p : Int)) = true := decide_eq_true (by omega)
      have g2 : decide ((k : Int) < (s.st p : Int)) = false := decide_eq_false (by omega)
      have g2n : decide (k < s.st p) = false := decide_eq_false (by omega)
      have hpi : (p : Int) < (C.nd : Int) := by omega
      rw [hp]
      clear hp
      go_wp2
      go_meet
      exact ⟨rfl, rfl⟩
  case rest =>
    obtain ⟨rfl, rfl⟩ := hcut
    clear hcase p0 hpar b1 b1n b2
    go_wp2
    go_loopg [72] C.nd (fun m i wr => SeRel1 w C s d k m i wr)
    case atStart => exact ⟨0, by omega, rfl, fun q hq => by omega, Fr.refl _ _, rfl⟩
    case round =>
      obtain ⟨j, hj, rfl, hall, hfr, hmm⟩ := hrel
      have HMM := hide hmm
      have HALL := hide hall
      have HATR := hide (HAT.out.fr0 hfr)
      clear hmm hall c0 c1 c2 c3
      by_cases hjn : j < C.nd
      · have hji : (j : Int) < (C.nd : Int) := by omega
        obtain ⟨y, hy, hpy, hry, hray, ob', oo', hA', c0, c1, c2, c3, c4, c5, c6, c7, c8, c9, c10, c11, c12⟩ := HATR.out.dev hjn
        rw [HA.out] at hA'
        injection hA' with hA'
        injection hA' with e1 e2
        subst e1 e2
        have q0 := HATR.out.stAt hjn
        obtain ⟨-, t1, -, -⟩ := HATR.out.cells
        rw [HSS.out] at t1
        rw [hpy] at c0
        obtain ⟨A0, q0', e0, -⟩ := hray 0 (by omega)
        obtain ⟨A1, q1', e1, -⟩ := hray 1 (by omega)
        obtain ⟨A2, q2', e2, -⟩ := hray 2 (by omega)
        obtain ⟨A3, q3', e3, -⟩ := hray 3 (by omega)
        rw [e0] at c1
        rw [e1] at c2
        rw [e2] at c3
        rw [e3] at c4
        have HSTEP : Hid (¬ (C.par j = (d : Int) ∧ s.st j < k) → ∀ q, q < j + 1 → ¬ (C.par q = (d : Int) ∧ s.st q < k)) := hide (fun h q hq => by
          by_cases e : q = j
          · subst e; exact h
          · exact HALL.out q (by omega))
        have HBL : Hid ((C.par j = (d : Int) ∧ s.st j < k) → setM C now (d : Int) (k : Int) s = (s, [], 9)) := hide (fun h => by rw [HM0.out, if_pos (HNP.out.2 ⟨j, hjn, h.1, h.2⟩)])
        clear hy hpy hry hray e0 e1 e2 e3 HALL
        generalize C.par j = pj at c0 HSTEP HBL
        generalize s.st j = sj at q0 HSTEP HBL
        go_upto_region 9 with (fail)
        have hxb := Blk.new wr 46 #[.int .i64 pj, .slice A0 (y.rl 0).length q0', .slice A1 (y.rl 1).length q1', .slice A2 (y.rl 2).length q2', .slice A3 (y.rl 3).length q3', .int .i64 (y.d.df 0), .int .i64 (y.d.df 1), .int .i64 (y.d.df 2), .int .i64 (y.d.df 3), .int .i64 (y.d.df 4), .int .i64 (y.d.df 5), .int .i64 y.d.wd, .int .i64 y.d.ws]
        have x0 := hxb.cell 0
        simp only [List.getElem?_toArray, List.getElem?_cons_zero] at x0
        have hfa : Fr [] wr (wr.alloc (.cells #[.int .i64 pj, .slice A0 (y.rl 0).length q0', .slice A1 (y.rl 1).length q1', .slice A2 (y.rl 2).length q2', .slice A3 (y.rl 3).length q3', .int .i64 (y.d.df 0), .int .i64 (y.d.df 1), .int .i64 (y.d.df 2), .int .i64 (y.d.df 3), .int .i64 (y.d.df 4), .int .i64 (y.d.df 5), .int .i64 y.d.wd, .int .i64 y.d.ws] 46)) := (Fr.refl _ _).alloc _
        have q0a := hfa.cell q0 (by simp)
        have t1a := hfa.cell t1 (by simp)
        have hfr2 := hfr.call hfa
        clear hxb c0 c1 c2 c3 c4 c5 c6 c7 c8 c9 c10 c11 c12 q0 t1
        generalize wr.alloc (.cells #[.int .i64 pj, .slice A0 (y.rl 0).length q0', .slice A1 (y.rl 1).length q1', .slice A2 (y.rl 2).length q2', .slice A3 (y.rl 3).length q3', .int .i64 (y.d.df 0), .int .i64 (y.d.df 1), .int .i64 (y.d.df 2), .int .i64 (y.d.df 3), .int .i64 (y.d.df 4), .int .i64 (y.d.df 5), .int .i64 y.d.wd, .int .i64 y.d.ws] 46) = w2 at x0 q0a t1a hfr2 ⊢
        clear hfa
        by_cases he : pj = (d : Int)
        · have k1 : (pj == (d : Int)) = true := by simp [he]
          by_cases hs : sj < k
          · have k2 : decide ((sj : Int) < (k : Int)) = true := decide_eq_true (by omega)
            have k2n : decide (sj < k) = true := decide_eq_true hs
            have HM := hide (HBL.out ⟨he, hs⟩)
            clear he hs HSTEP HBL
            go_wp2
            go_ret2
            exact SetRet.err HM.out HAT.out hfr2
          · have k2 : decide ((sj : Int) < (k : Int)) = false := decide_eq_false (by omega)
            have k2n : decide (sj < k) = false := decide_eq_false hs
            have HST := hide (HSTEP.out (fun h => hs h.2))
            clear he hs HSTEP HBL
            go_wp2
            go_roundg (C.nd - (j + 1))
            case measure => rw [HMM.out]; omega
            case rel => exact ⟨j + 1, by omega, by go_num, HST.out, hfr2, rfl⟩
        · have k1 : (pj == (d : Int)) = false := by simp [he]
          have HST := hide (HSTEP.out (fun h => he h.1))
          clear he HSTEP HBL
          go_wp2
          go_roundg (C.nd - (j + 1))
          case measure => rw [HMM.out]; omega
          case rel => exact ⟨j + 1, by omega, by go_num, HST.out, hfr2, rfl⟩
      · have hje : j = C.nd := by omega
        subst hje
        have hji : ¬ (C.nd : Int) < (C.nd : Int) := by omega
        have hnb : ¬ Blocked C s d k := fun h => by
          obtain ⟨i, h1, h2, h3⟩ := HNP.out.1 h
          exact HALL.out i h1 ⟨h2, h3⟩
        have HM : Hid (setM C now (d : Int) (k : Int) s = ((setOk C now d k s).1, (setOk C now d k s).2, 0)) := hide (by rw [HM0.out, if_neg hnb])
        clear hnb HNP HALL HM0
        obtain ⟨y, hy, hpy, hry, hray, ob', oo', hA', c0, c1, c2, c3, c4, c5, c6, c7, c8, c9, c10, c11, c12⟩ := HATR.out.dev hdn
        rw [HA.out] at hA'
        injection hA' with hA'
        injection hA' with e1 e2
        subst e1 e2
        have q0 := HATR.out.stAt hdn
        obtain ⟨t0, t1, -, -⟩ := HATR.out.cells
        rw [HSS.out] at t1
        rw [HA.out] at t0
        have HRA := hide hray
        have hlen : ∀ q, (y.rl q).length ≤ 4096 := fun q => by rw [hry]; have := HC.out.len d q; omega
        have HLEN := hide hlen
        have hst4 := HI.out.st4 d
        have HCH : Hid (changeM y.rl (s.st d : Int) (k : Int) = (acqs C s d k, rels C s d k, 0)) := hide (by
          rw [hry, changeM, if_pos (by omega), Int.toNat_natCast, Int.toNat_natCast, if_pos ⟨HC.out.asc d _, HC.out.asc d _⟩]
          rfl)
        clear hy hpy hry hray hlen
        go_upto_region 12 with (fail)
        have HQ := hide (And.intro (Fr.refl [] wr) (And.intro t0 (And.intro t1 (And.intro q0 (And.intro c0 (And.intro c1 (And.intro c2 (And.intro c3 (And.intro c4 (And.intro c5 (And.intro c6 (And.intro c7 (And.intro c8 (And.intro c9 (And.intro c10 (And.intro c11 c12))))))))))))))))
        go_region_held3 (fun w' => Fr [] wr w' ∧ w'.cell? ⟨T.b, 0, none⟩ = some (.slice (some ⟨ob, oo, none⟩) C.nd T.cA) ∧ w'.cell? ⟨T.b, 1, none⟩ = some (.slice (some ⟨T.gS, 0, none⟩) C.nd T.cS) ∧ w'.cell? ⟨T.gS, d, none⟩ = some (.int .i64 (s.st d : Int)) ∧ w'.cell? ⟨ob, oo + d * 13, none⟩ = some (.int .i64 y.d.par) ∧ w'.cell? ⟨ob, oo + d * 13 + 1, none⟩ = some (y.d.rf 0) ∧ w'.cell? ⟨ob, oo + d * 13 + 2, none⟩ = some (y.d.rf 1) ∧ w'.cell? ⟨ob, oo + d * 13 + 3, none⟩ = some (y.d.rf 2) ∧ w'.cell? ⟨ob, oo + d * 13 + 4, none⟩ = some (y.d.rf 3) ∧ w'.cell? ⟨ob, oo + d * 13 + 5, none⟩ = some (.int .i64 (y.d.df 0)) ∧ w'.cell? ⟨ob, oo + d * 13 + 6, none⟩ = some (.int .i64 (y.d.df 1)) ∧ w'.cell? ⟨ob, oo + d * 13 + 7, none⟩ = some (.int .i64 (y.d.df 2)) ∧ w'.cell? ⟨ob, oo + d * 13 + 8, none⟩ = some (.int .i64 (y.d.df 3)) ∧ w'.cell? ⟨ob, oo + d * 13 + 9, none⟩ = some (.int .i64 (y.d.df 4)) ∧ w'.cell? ⟨ob, oo + d * 13 + 10, none⟩ = some (.int .i64 (y.d.df 5)) ∧ w'.cell? ⟨ob, oo + d * 13 + 11, none⟩ = some (.int .i64 y.d.wd) ∧ w'.cell? ⟨ob, oo + d * 13 + 12, none⟩ = some (.int .i64 y.d.ws)) (first | exact keepSet HQ.out (Fr.refl _ _).drew | exact keepSet (by assumption) (Fr.refl _ _).drew | exact keepSet (by assumption) hf3) (first | (go_at_call 53; refine (change27_any y.d y.rl (s.st d : Int) (k : Int) _ (HRA.out.fr0 (And.left (by assumption))) HLEN.out).mono ?_; rintro e w3 ⟨va, vr, rfl, howa, howr, hf3⟩))
        rw [HCH.out]
        rw [HCH.out] at howa howr
        dsimp only
        obtain ⟨Aa, ca, rfl, -, hrwa, hlwa⟩ := own_slice howa
        obtain ⟨Ar, cr, rfl, -, hrwr, hlwr⟩ := own_slice howr
        have hfw : Fr [] wr w3 := (Fr.refl [] wr).drew.call hf3
        have hf03 : Fr [] w w3 := hfr.call hfw
        have hwsz := hfr.size
        have HAT3 := hide (HAT.out.fr0 hf03)
        obtain ⟨ha1, ha2⟩ := acqs_ok (s := s) (k := k) HC.out hdn
        obtain ⟨hr1, hr2⟩ := rels_ok (s := s) (k := k) HC.out hdn
        have hal : (acqs C s d k).length ≤ 64 := Nat.le_trans (List.length_filter_le _ _) (need_len HC.out d k)
        have hrl : (rels C s d k).length ≤ 64 := by
          unfold rels
          rw [List.length_reverse]
          exact Nat.le_trans (List.length_filter_le _ _) (need_len HC.out d _)
        have HSO := hide (show setOk C now d k s = (⟨rup s.st d k, (relF C now (rels C s d k) (acqF C now (acqs C s d k) s.r).1).1, now⟩, (acqF C now (acqs C s d k) s.r).2 ++ (relF C now (rels C s d k) (acqF C now (acqs C s d k) s.r).1).2) from rfl)
        simp only at hrwa hrwr
        have hlwa' : ∀ ad, Aa = some ad → w.heap.size ≤ ad.block := fun ad e => Nat.le_trans hwsz (by have := (hlwa ad e).1; simpa using this)
        have hlwr' : ∀ ad, Ar = some ad → w.heap.size ≤ ad.block := fun ad e => Nat.le_trans hwsz (by have := (hlwr ad e).1; simpa using this)
        generalize acqs C s d k = acq at hrwa ha1 ha2 hal HSO ⊢
        generalize rels C s d k = rel at hrwr hr1 hr2 hrl HSO ⊢
        have HA1 := hide ha1
        have HA2 := hide ha2
        have HR1 := hide hr1
        have HR2 := hide hr2
        have HRWA := hide hrwa
        have HRWR := hide hrwr
        have hlw := HAT.out.low
        have hwrl : ∀ g ∈ T.wr, g < w.heap.size := fun g hg => by
          simp only [TP.wr, List.mem_cons, List.not_mem_nil, or_false] at hg
          obtain ⟨h1, h2, ⟨h3, h4, h5, -⟩, -, -⟩ := hlw
          omega
        have HWRL := hide hwrl
        have HOFA : Hid (Off Aa T.wr) := hide (fun ad e hm => by have := hlwa' ad e; have := HWRL.out _ hm; omega)
        have HOFR : Hid (Off Ar T.wr) := hide (fun ad e hm => by have := hlwr' ad e; have := HWRL.out _ hm; omega)
        have hsz3 : w.heap.size ≤ w3.heap.size := hf03.size
        have HLW3 := hide (hlw.mono hsz3)
        have HPN := hide HAT.out.pn
        have HOWN0 := hide HI.out.own
        have hcl := HI.out.clk
        clear c0 c1 c2 c3 c4 c5 c6 c7 c8 c9 c10 c11 c12 q0 t0 t1 ha1 ha2 hr1 hr2 hrwa hrwr hlwa hlwr hlwa' hlwr' howa howr HQ HRA HCH HLEN hlw hwrl hf3 hfw hfr HATR
        go_wp2
        go_loopg [16, 118] acq.length (fun m v16 v118 wr => SeRel2 w3 T ds C s now acq m v16 v118 wr)
        case atStart => exact ⟨0, by omega, rfl, HAT3.out, own_nil _ _ _ _, Fr.refl _ _, rfl⟩
        case round =>
          obtain ⟨j, hj, rfl, hat, hown, hfr, hmm⟩ := hrel
          obtain ⟨A16, c16, rfl, -, -, -⟩ := own_slice hown
          have HMJ := hide hmm
          have HATJ := hide hat
          have HOWJ := hide hown
          have hoj := acq_own (now := now) HC.out.ch (l := acq.take j) (fun v hv => HA1.out v (List.mem_of_mem_take hv)) (HA2.out.sublist (List.take_sublist _ _)) HOWN0.out
          have hclj : (acqF C now (acq.take j) s.r).1.clk ≤ now := by
            rcases acq_clk (C := C) (now := now) (l := acq.take j) (r := s.r) with h | h <;> omega
          have hlnj := acqF_len HC.out now (l := acq.take j) (r := s.r) (fun v hv => HA1.out v (List.mem_of_mem_take hv))
          rw [List.length_take, Nat.min_eq_left hj] at hlnj
          have HCNJ : Hid (∀ q, q < C.n → (acqF C now (acq.take j) s.r).1.cnt q ≤ 100000) := hide (fun q hq => by
            have h1 := Own.le (B := 65) hoj (fun q _ => by
              have := useF_le C s.st q
              split <;> omega) q hq
            have := HC.out.n64
            omega)
          clear hmm hat hown hoj
          by_cases hja : j < acq.length
          · obtain ⟨v, hv⟩ : ∃ v, acq[j]? = some v := ⟨_, List.getElem?_eq_getElem hja⟩
            have hvb := HA1.out v (List.mem_of_getElem? hv)
            have HSN := hide (show acqF C now (acq.take (j + 1)) s.r = _ from by rw [take_succ_some hv, acqF_snoc])
            obtain ⟨q, rfl⟩ := Int.eq_ofNat_of_zero_le hvb.1
            have hqn : q < C.n := by omega
            obtain ⟨o1, o2, rfl, e0⟩ := (HRWA.out.fr hfr HOFA.out).int hv
            obtain ⟨-, -, t2, -⟩ := HATJ.out.cells
            obtain ⟨hch, hchl⟩ := HC.out.ch q hqn
            have hjai : (j : Int) < (acq.length : Int) := by omega
            rw [Int.toNat_natCast] at HSN
            have HCHN : Hid (Chn T.pr.n C.R q (C.ch q)) := hide (by rw [HPN.out]; exact hch)
            have HCN2 : Hid (∀ q, q < T.pr.n → (acqF C now (acq.take j) s.r).1.cnt q ≤ 100000) := hide (by rw [HPN.out]; exact HCNJ.out)
            generalize hAJ : acqF C now (acq.take j) s.r = aj at HATJ HOWJ hclj hlnj HCN2 HSN HCNJ ⊢
            obtain ⟨rj, oj⟩ := aj
            simp only at HATJ HOWJ hclj hlnj HCN2 HSN HCNJ
            clear hv hvb hch hAJ
            go_wp2_with fail
            refine (racquire_ok HCHN.out (by omega) HATJ.out.rl HCN2.out hclj hn2).mono ?_
            rintro e w4 ⟨v4, rfl, hrl4, hown4, hf4⟩
            have hl4 := add_len C.R now q (C.ch q) { rj with clk := now }
            generalize addC C.R now q (C.ch q) { rj with clk := now } = a4 at hrl4 hown4 HSN hl4
            obtain ⟨r4, o4⟩ := a4
            simp only at hrl4 hown4 HSN hl4
            have HAT4 := hide (HATJ.out.rails hf4 hrl4)
            obtain ⟨A19, c19, rfl, -, hrow4, -⟩ := own_slice hown4
            have hsz4 := hfr.size
            have hsz5 := hf4.size
            have hobw : ∀ g, (Value.slice A16 oj.length c16).ownBlock = some g → g ∉ [T.pr.b, T.pr.gB, T.pr.gC] := fun g hg hm => by
              have h1 := (own_block HOWJ.out hg).1
              have h2 := HWRL.out g (by simp at hm; simp [TP.wr]; omega)
              omega
            have HOW4 := hide (own_fr HOWJ.out hf4 hobw)
            have HROW4 := hide hrow4
            have hfr4 : Fr T.wr w3 w4 := hfr.trans (hf4.mono (fun y _ hm => by simp at hm; simp [TP.wr]; omega))
            clear hrl4 hown4 hrow4 hobw e0 t2 hf4 hfr
            go_upto_region 21 with (first
              | (at_builtin
                 refine wpList_append_row _ rfl (.tmp 132) (.tmp 133) _ rfl w3.heap.size 54 i0 (.agg #[.int .i64 0, .bool false, .int .u64 0, .int .u64 0]) 4 32 Try.underlying39 HRI.out.1 HRI.out.2.1 HRI.out.2.2.1 HRI.out.2.2.2 rfl (by omega) (.slice A16 oj.length c16) oj.length (ropcs oj) rfl
                   HOW4.out A19 o4.length c19 (ropcs o4) rfl (ropcs_len o4) HROW4.out (ropcs_one o4) (by simp only [maxLen]; omega) (by omega) (by omega) ?_
                 intro v5 w5 hown5 hg5 hat5))
            obtain ⟨A5, c5', rfl, -, -, -⟩ := own_slice hown5
            have hf45 : Fr (Value.slice A16 oj.length c16).ownBlock.toList w4 w5 := Fr.of_grown hg5
            have hob : ∀ y ∈ (Value.slice A16 oj.length c16).ownBlock.toList, w3.heap.size ≤ y := fun y hy => (own_block HOW4.out (by simpa using hy)).1
            have HAT5 := hide (HAT4.out.frGe HLW3.out hf45 hob)
            have hfr5 : Fr T.wr w3 w5 := hfr4.step hf45 (fun y hy => .inr (hob y hy))
            have HOW5 := hide hown5
            clear hown5 hg5 hat5 hf45 hob HROW4 HOW4
            go_wp2
            go_roundg (acq.length - (j + 1))
            case measure => rw [HMJ.out]; omega
            case rel => exact ⟨j + 1, by omega, by go_num, by rw [HSN.out]; exact HAT5.out, by rw [HSN.out, ropcs_app, List.length_append]; exact HOW5.out, hfr5, rfl⟩
          · have hje : j = acq.length := by omega
            subst hje
            have hjai : ¬ (acq.length : Int) < (acq.length : Int) := by omega
            rw [List.take_length] at HATJ HOWJ hclj hlnj ⊢
            obtain ⟨f1, HOA, HR3, HF1⟩ : ∃ f1 : Nat → Nat, Hid (Own C.n C.R (acqF C now acq s.r).1 f1) ∧ Hid (∀ v ∈ rel, 0 ≤ v ∧ v < (C.n : Int) ∧ 1 ≤ f1 v.toNat) ∧ Hid (∀ q, f1 q ≤ 65) :=
              ⟨fun j => useF C s.st j + if (j : Int) ∈ acq then 1 else 0, hide (acq_own HC.out.ch HA1.out HA2.out HOWN0.out), hide (fun v hv => by
                have h := HR1.out v hv
                exact ⟨h.1, h.2.1, Nat.le_trans h.2.2 (Nat.le_add_right _ _)⟩), hide (fun q => by
                have := useF_le C s.st q
                have := HC.out.nd64
                show _ + _ ≤ _
                split <;> omega)⟩
            have HFRJ := hide hfr
            clear HCNJ hfr HRWA HOFA HA1 HA2 HOWN0
            generalize hAJ : (acqF C now acq s.r).1 = r0 at HATJ hclj HOA HSO
            generalize hAO : (acqF C now acq s.r).2 = ops0 at HOWJ hlnj HSO ⊢
            clear hAJ hAO
            go_wp2
            go_loopg [16, 138] rel.length (fun m v16 v138 wr => SeRel3 w3 T ds C s now rel r0 ops0 m v16 v138 wr)
            case atStart => exact ⟨0, by omega, rfl, by simpa [relF] using HATJ.out, by simpa [relF] using HOWJ.out, HFRJ.out, rfl⟩
            case round =>
              obtain ⟨i, hi, rfl, hat, hown, hfr, hmm⟩ := hrel
              obtain ⟨A17, c17, rfl, -, -, -⟩ := own_slice hown
              have HMI := hide hmm
              have HATI := hide hat
              have HOWI := hide hown
              have hoi := rel_own (now := now) HC.out.ch (l := rel.take i) (r := r0) (f := f1) (fun v hv => HR3.out v (List.mem_of_mem_take hv)) (HR2.out.sublist (List.take_sublist _ _)) HOA.out
              have hcli : (relF C now (rel.take i) r0).1.clk ≤ now := by
                rcases rel_clk (C := C) (now := now) (l := rel.take i) (r := r0) with h | h <;> omega
              have hlni := relF_len HC.out now (l := rel.take i) (r := r0) (fun v hv => ⟨(HR3.out v (List.mem_of_mem_take hv)).1, (HR3.out v (List.mem_of_mem_take hv)).2.1⟩)
              rw [List.length_take, Nat.min_eq_left hi] at hlni
              have HCNI : Hid (∀ q, q < C.n → (relF C now (rel.take i) r0).1.cnt q ≤ 100000) := hide (fun q hq => by
                have h1 := Own.le (B := 65) hoi (fun q _ => by
                  have := HF1.out q
                  omega) q hq
                have := HC.out.n64
                omega)
              have HOI := hide hoi
              clear hmm hat hown hoi
              by_cases hir : i < rel.length
              · obtain ⟨v, hv⟩ : ∃ v, rel[i]? = some v := ⟨_, List.getElem?_eq_getElem hir⟩
                have hvb := HR3.out v (List.mem_of_getElem? hv)
                have HSN := hide (show relF C now (rel.take (i + 1)) r0 = _ from by rw [take_succ_some hv, relF_snoc])
                have hnin : v ∉ rel.take i := by
                  have h1 := HR2.out.sublist (List.take_sublist (i + 1) rel)
                  rw [take_succ_some hv] at h1
                  exact fun hm => (List.nodup_append.1 h1).2.2 v hm v (by simp) rfl
                obtain ⟨q, rfl⟩ := Int.eq_ofNat_of_zero_le hvb.1
                have hqn : q < C.n := by omega
                obtain ⟨o1, o2, rfl, e0⟩ := (HRWR.out.fr hfr HOFR.out).int hv
                obtain ⟨-, -, t2, -⟩ := HATI.out.cells
                obtain ⟨hch, hchl⟩ := HC.out.ch q hqn
                have hiri : (i : Int) < (rel.length : Int) := by omega
                rw [Int.toNat_natCast] at HSN hvb
                have HCHN : Hid (Chn T.pr.n C.R q (C.ch q)) := hide (by rw [HPN.out]; exact hch)
                have HCN2 : Hid (∀ q, q < T.pr.n → (relF C now (rel.take i) r0).1.cnt q ≤ 100000) := hide (by rw [HPN.out]; exact HCNI.out)
                obtain ⟨f2, HO2, hf2⟩ : ∃ f2 : Nat → Nat, Hid (Own T.pr.n C.R (relF C now (rel.take i) r0).1 f2) ∧ 1 ≤ f2 q :=
                  ⟨_, hide (by rw [HPN.out]; exact HOI.out), by rw [if_neg hnin]; exact hvb.2.2⟩
                generalize hAJ : (relF C now (rel.take i) r0).1 = ri at HATI hcli HCN2 HSN HCNI HO2
                generalize hAO : (relF C now (rel.take i) r0).2 = oi at HOWI hlni HSN ⊢
                clear hv hvb hch hAJ hAO hnin HOI
                have hopl : (ops0 ++ oi).length = ops0.length + oi.length := List.length_append
                try rw [← hopl]
                generalize hall : ops0 ++ oi = all at HOWI hopl ⊢
                have hopb : all.length ≤ 8320 := by omega
                have HALL := hide hall
                clear hopl hall
                go_wp2_with fail
                refine (rrelease_ok HCHN.out (by omega) HATI.out.rl HO2.out hf2 HCN2.out hcli hn2).mono ?_
                rintro e w4 ⟨v4, rfl, hrl4, hown4, hf4⟩
                rw [HPN.out] at hrl4 hown4
                have hl4 := rem_len C.n C.R now q (C.ch q) { ri with clk := now }
                generalize remC C.n C.R now q (C.ch q) { ri with clk := now } = a4 at hrl4 hown4 HSN hl4
                obtain ⟨r4, o4⟩ := a4
                simp only at hrl4 hown4 HSN hl4
                have HAT4 := hide (HATI.out.rails hf4 hrl4)
                obtain ⟨A19, c19, rfl, -, hrow4, -⟩ := own_slice hown4
                have hsz4 := hfr.size
                have hsz5 := hf4.size
                have hobw : ∀ g, (Value.slice A17 all.length c17).ownBlock = some g → g ∉ [T.pr.b, T.pr.gB, T.pr.gC] := fun g hg hm => by
                  have h1 := (own_block HOWI.out hg).1
                  have h2 := HWRL.out g (by simp at hm; simp [TP.wr]; omega)
                  omega
                have HOW4 := hide (own_fr HOWI.out hf4 hobw)
                have HROW4 := hide hrow4
                have hfr4 : Fr T.wr w3 w4 := hfr.trans (hf4.mono (fun y _ hm => by simp at hm; simp [TP.wr]; omega))
                clear hrl4 hown4 hrow4 hobw e0 t2 hf4 hfr
                go_upto_region 27 with (first
                  | (at_builtin
                     refine wpList_append_row _ rfl (.tmp 152) (.tmp 153) _ rfl w3.heap.size 54 i0 (.agg #[.int .i64 0, .bool false, .int .u64 0, .int .u64 0]) 4 32 Try.underlying39 HRI.out.1 HRI.out.2.1 HRI.out.2.2.1 HRI.out.2.2.2 rfl (by omega) (.slice A17 all.length c17) all.length (ropcs all) rfl
                       HOW4.out A19 o4.length c19 (ropcs o4) rfl (ropcs_len o4) HROW4.out (ropcs_one o4) (by simp only [maxLen]; omega) (by omega) (by omega) ?_
                     intro v5 w5 hown5 hg5 hat5))
                obtain ⟨A5, c5', rfl, -, -, -⟩ := own_slice hown5
                have hf45 : Fr (Value.slice A17 all.length c17).ownBlock.toList w4 w5 := Fr.of_grown hg5
                have hob : ∀ y ∈ (Value.slice A17 all.length c17).ownBlock.toList, w3.heap.size ≤ y := fun y hy => (own_block HOW4.out (by simpa using hy)).1
                have HAT5 := hide (HAT4.out.frGe HLW3.out hf45 hob)
                have hfr5 : Fr T.wr w3 w5 := hfr4.step hf45 (fun y hy => .inr (hob y hy))
                have HOW5 := hide hown5
                clear hown5 hg5 hat5 hf45 hob HROW4 HOW4
                go_wp2
                go_roundg (rel.length - (i + 1))
                case measure => rw [HMI.out]; omega
                case rel => exact ⟨i + 1, by omega, by go_num, by rw [HSN.out]; exact HAT5.out, by rw [HSN.out, ← List.append_assoc, HALL.out, ropcs_app, List.length_append]; exact HOW5.out, hfr5, rfl⟩
              · have hje : i = rel.length := by omega
                subst hje
                have hiri : ¬ (rel.length : Int) < (rel.length : Int) := by omega
                rw [List.take_length] at HATI HOWI ⊢
                have HFI := hide (Fr.trans (hf03.mono (fun _ _ h => by cases h)) hfr)
                obtain ⟨t0, t1, -, -⟩ := HATI.out.cells
                rw [HSS.out] at t1
                have hn0 : 0 < C.nd := by omega
                have q0 := HATI.out.stAt hdn
                have g0 := (HATI.out.sS hn0).2.frozen d
                generalize hAI : (relF C now rel r0).1 = r1 at HATI HSO
                generalize hAO : (relF C now rel r0).2 = ops1 at HOWI HSO ⊢
                have hopl2 : (ops0 ++ ops1).length = ops0.length + ops1.length := List.length_append
                try rw [← hopl2]
                generalize hall : ops0 ++ ops1 = all at HOWI HSO hopl2 ⊢
                clear hopl2
                have HAT6 := hide (HATI.out.setSt hn0 d k)
                have hf6 : Fr T.wr wr (wr.setCell ⟨T.gS, d, none⟩ (.int .i64 (k : Int))) := (Fr.refl _ _).set (.inl (by simp [TP.wr])) _
                have hobw : ∀ g, (Value.slice A17 all.length c17).ownBlock = some g → g ∉ T.wr := fun g hg hm => by
                  have h1 := (own_block HOWI.out hg).1
                  have h2 := HWRL.out g hm
                  omega
                have HOW6 := hide (own_fr HOWI.out hf6 hobw)
                have HFI6 := hide (HFI.out.trans hf6)
                clear hAI hAO hall hf6 HFI HOWI hfr hal hrl hclj hlnj hlni hcli hcl hn1
                go_upto_region 29 with (fail)
                clear t0 t1 q0 g0 HATI
                generalize wr.setCell ⟨T.gS, d, none⟩ (.int .i64 (k : Int)) = w6 at HAT6 HOW6 HFI6 ⊢
                obtain ⟨-, -, -, t3⟩ := HAT6.out.cells
                have g3 := HAT6.out.blk.frozen 3
                have HAT7 := hide (HAT6.out.setClk now)
                have hf7 : Fr T.wr w6 (w6.setCell ⟨T.b, 3, none⟩ (.int .u64 (now : Int))) := (Fr.refl _ _).set (.inl (by simp [TP.wr])) _
                have HOW7 := hide (own_fr HOW6.out hf7 hobw)
                have HFI7 := hide (HFI6.out.trans hf7)
                clear hf7 HFI6 HOW6 HAT6 hobw
                go_wp2
                go_ret2
                refine ⟨_, by rw [HM.out]; rfl, ?_, ?_, HFI7.out⟩
                · rw [HM.out, HSO.out]
                  exact HAT7.out
                · rw [HM.out, HSO.out]
                  exact own_base HOW7.out hsz3
end Go.Proofs.Ytdocdgghphhdpaa

