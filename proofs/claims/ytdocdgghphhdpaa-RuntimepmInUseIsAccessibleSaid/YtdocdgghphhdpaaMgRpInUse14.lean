/- Plain: what Some makes of devices and rails is valid, and the tree of them. -/
import Derived.Test.YtdocdgghphhdpaaTrW2Mg
import Derived.Test.YtdocdgghphhdpaaTrW3Mg
import Derived.Test.YtdocdgghphhdpaaMgRpInUse12
import Derived.Test.YtdocdgghphhdpaaRlW5Mg
import Derived.Test.YtdocdgghphhdpaaMgRpInUse7
namespace Go.Proofs.Ytdocdgghphhdpaa
open Go.RowKit

/-- What some27 gives, without memory. -/
structure SomeOk (out : List DV) (n : Nat) : Prop where
  len : out.length ≤ 6
  el : ∀ i x, out[i]? = some x → ∃ (r : DV) (rf : Nat → Value), x = (⟨someP r i rf, someRl r n⟩ : DV)
theorem someOk_of {raw out : List DV} {n : Nat} (h : SomeTo raw out n (min raw.length 6)) : SomeOk out n := by
  refine ⟨by rw [h.1]; omega, fun i x hx => ?_⟩
  have hi : i < min raw.length 6 := by rw [← h.1]; exact (List.getElem?_eq_some_iff.1 hx).1
  obtain ⟨rf, e⟩ := h.2 i _ hi (List.getElem?_eq_getElem (by omega))
  rw [hx] at e
  injection e with e
  exact ⟨_, rf, e⟩
theorem someRl_ok (r : DV) (n k : Nat) : ascB (someRl r n k) = true ∧ (∀ v ∈ someRl r n k, 0 ≤ v ∧ v < (n : Int)) ∧ (someRl r n k).length ≤ 3 := by
  unfold someRl
  split
  · exact ⟨ascB_asc (ascL_asc _ _), fun v hv => ascL_mem hv, ascL_len _ _⟩
  · exact ⟨by decide, (fun v hv => by cases hv), by simp⟩
theorem dfM_step (f : Nat → Int) (k : Nat) : dfM f k ≤ dfM f (k + 1) ∧ (dfM f k ≤ 4 → dfM f (k + 1) ≤ 4) := by
  have := umod_lt (f (k + 1)) (show 0 < 5 by omega)
  rw [dfM]
  omega
theorem someP_ok (r : DV) (i n : Nat) (rf : Nat → Value) : devOk ⟨someP r i rf, someRl r n⟩ i (n : Int) = true := by
  have h1 := umod_lt r.d.par (show 0 < i + 1 by omega)
  have h2 := umod_lt r.d.wd (show 0 < 4 by omega)
  have h3 := umod_lt r.d.ws (show 0 < 5 by omega)
  have hr : railsB (someRl r n) (n : Int) = true := railsB_yes (fun k _ => ⟨(someRl_ok r n k).1, (someRl_ok r n k).2.1⟩)
  have d0 : dfM r.d.df 0 = 0 := rfl
  have d1 := dfM_step r.d.df 0
  have d2 := dfM_step r.d.df 1
  have d3 := dfM_step r.d.df 2
  have d4 := dfM_step r.d.df 3
  have d5 := dfM_step r.d.df 4
  simp only [Nat.zero_add, Nat.reduceAdd] at d1 d2 d3 d4 d5
  have hd : deepB (someP r i rf) = true := by
    unfold deepB
    refine decide_eq_true ⟨rfl, ?_, ?_⟩
    · unfold srtB PD.deepL
      refine decide_eq_true (fun j hj => ?_)
      simp only [someP, List.length_cons, List.length_nil] at hj ⊢
      have : j = 0 ∨ j = 1 ∨ j = 2 ∨ j = 3 ∨ j = 4 := by omega
      rcases this with rfl | rfl | rfl | rfl | rfl <;> simp [List.getD] <;> omega
    · show dfM r.d.df 5 ≤ 4
      omega
  unfold devOk
  rw [hr, hd, Bool.and_true, Bool.and_true]
  refine (Bool.and_eq_true _ _).mpr ⟨decide_eq_true ?_, decide_eq_true ?_⟩
  · simp only [someP]
    omega
  · simp only [someP]
    omega
theorem some_check {out : List DV} {n : Nat} (h : SomeOk out n) (hn : n ≤ 64) : dcheckM out (n : Int) = 0 := by
  have hl := h.len
  have hb : devsB out (n : Int) = true := devsB_yes (k := out.length) (fun i x _ hx => by
    obtain ⟨r, rf, rfl⟩ := h.el i x hx
    exact someP_ok r i n rf) (Nat.le_refl _)
  unfold dcheckM
  rw [if_neg (by omega), if_pos hb]
/-- The tree's constants. -/
noncomputable def mkTC (out : List DV) (n : Nat) (R : Nat → RailD) (ch : Nat → List Nat) : TC :=
  ⟨out.length, fun i => (out[i]?.map fun x => x.d.par).getD 0, fun i => (out[i]?.map fun x => x.rl).getD fun _ => [], n, R, ch⟩
theorem mkTC_tie (out : List DV) (n : Nat) (R : Nat → RailD) (ch : Nat → List Nat) : ∀ i x, out[i]? = some x → x.d.par = (mkTC out n R ch).par i ∧ x.rl = (mkTC out n R ch).rl i := fun i x hx => by
  simp [mkTC, hx]
theorem good_ch {m : Nat} {R : Nat → RailD} {rk : Nat → Nat} (h : Good25 m R rk) : ∃ ch : Nat → List Nat, ∀ k, k < m → Chn m R k (ch k) ∧ (ch k).length ≤ 64 := by
  have h1 : ∀ k, ∃ L, k < m → Chn m R k L ∧ L.length ≤ 64 := fun k => by
    by_cases hk : k < m
    · obtain ⟨L, a, -, b⟩ := chn_of_rank h.rank (rk k) k (Nat.le_refl _) hk
      have := h.rk8 k
      exact ⟨L, fun _ => ⟨a, by omega⟩⟩
    · exact ⟨[], fun h => absurd h hk⟩
  exact ⟨fun k => (h1 k).choose, fun k hk => (h1 k).choose_spec hk⟩
theorem mkTC_ok {out : List DV} {n : Nat} {R : Nat → RailD} {ch : Nat → List Nat} (h : SomeOk out n) (hn : n ≤ 8) (hch : ∀ k, k < n → Chn n R k (ch k) ∧ (ch k).length ≤ 64) : TOk (mkTC out n R ch) := by
  have hrl : ∀ i q, (mkTC out n R ch).rl i q = [] ∨ ∃ r, (mkTC out n R ch).rl i q = someRl r n q := fun i q => by
    cases hx : out[i]? with
    | none => left; simp [mkTC, hx]
    | some x =>
      obtain ⟨r, rf, rfl⟩ := h.el i x hx
      right
      exact ⟨r, by simp [mkTC, hx]⟩
  have hneed : ∀ i q, needL ((mkTC out n R ch).rl i) q = [] ∨ ∃ r, needL ((mkTC out n R ch).rl i) q = someRl r n q := fun i q => by
    unfold needL
    split
    · exact .inl rfl
    · exact hrl i q
  refine ⟨Nat.le_trans h.len (by omega), Nat.le_trans hn (by omega), fun i hi => ?_, fun i q => ?_, fun i q => ?_, fun i q hi v hv => ?_, hch⟩
  · have hi' : i < out.length := hi
    obtain ⟨r, rf, e⟩ := h.el i _ (List.getElem?_eq_getElem hi')
    have h1 := umod_lt r.d.par (show 0 < i + 1 by omega)
    have h2 : (mkTC out n R ch).par i = (umod r.d.par (i + 1) : Int) - 1 := by
      have : out[i]? = some _ := List.getElem?_eq_getElem hi'
      simp [mkTC, this, e, someP]
    rw [h2]
    omega
  · rcases hneed i q with e | ⟨r, e⟩ <;> rw [e]
    · decide
    · exact (someRl_ok r n q).1
  · rcases hrl i q with e | ⟨r, e⟩ <;> rw [e]
    · simp
    · have := (someRl_ok r n q).2.2
      omega
  · rcases hneed i q with e | ⟨r, e⟩ <;> rw [e] at hv
    · cases hv
    · exact (someRl_ok r n q).2.1 v hv
theorem heldN_rsz (R : Nat → RailD) (j : Nat) : ∀ i, heldN R rsz j i = 0
  | 0 => rfl
  | i + 1 => by
    rw [heldN, heldN_rsz R j i]
    simp [rsz]
theorem useN_four (C : TC) (j : Nat) : ∀ i, useN C (fun _ => 4) j i = 0
  | 0 => rfl
  | i + 1 => by
    rw [useN, useN_four C j i]
    simp [needL]
theorem tsz_inv (C : TC) : TInv C tsz :=
  ⟨fun j _ => by show 0 = heldN C.R rsz j C.n + useN C (fun _ => 4) j C.nd; rw [heldN_rsz, useN_four], Nat.le_refl _, fun _ => Nat.le_refl _, fun _ _ _ _ => Nat.le_refl _⟩
theorem good_new {out : List DV} {n : Nat} {R : Nat → RailD} {rk : Nat → Nat} (h : SomeOk out n) (hg : Good25 n R rk) : dnewM out R n = 0 := by
  have := hg.n8
  rw [dnewM, if_pos (some_check h (by omega))]
  exact rank_new hg.rank (by omega) hg.ok
theorem setM_clk (C : TC) (now : Nat) (d k : Int) (s : TSt) (h : s.clk ≤ MaxT) : (setM C now d k s).1.clk ≤ MaxT := by
  unfold setM
  split
  · exact h
  · rename_i h1
    split
    · exact h
    · show now ≤ MaxT
      omega
/-- Set's result and state. -/
theorem setM_cases (C : TC) (now d k : Nat) (s : TSt) : (setM C now (d : Int) (k : Int) s).2.2 ≠ 0 ∧ (setM C now (d : Int) (k : Int) s).1 = s ∨ ((setM C now (d : Int) (k : Int) s).2.2 = 0 ∧ (setM C now (d : Int) (k : Int) s).1.st = rup s.st d k ∧ (setM C now (d : Int) (k : Int) s).1.clk = now) := by
  unfold setM
  split
  · exact .inl ⟨by simp, rfl⟩
  · split
    · exact .inl ⟨by simp, rfl⟩
    · exact .inr ⟨rfl, rfl, rfl⟩
end Go.Proofs.Ytdocdgghphhdpaa

/- Walks: Tree.Accessible. -/
namespace Go.Proofs.Ytdocdgghphhdpaa
open Go.RowKit

/-- Device d is in D0 with its rails powered. -/
def accR (C : TC) (P : RP) (s : TSt) (now d : Nat) : Bool := decide (s.st d = 0) && (C.rl d 0).all fun v => powI P s.r v now
/-- From d upwards. -/
def accF (C : TC) (P : RP) (s : TSt) (now : Nat) : Nat → Int → Bool
  | 0, _ => true
  | f + 1, d => if d < 0 then true else accR C P s now d.toNat && accF C P s now f (C.par d.toNat)
def accM (C : TC) (P : RP) (s : TSt) (d : Int) (now : Nat) : Bool := if 0 ≤ d ∧ d < (C.nd : Int) then accF C P s now C.nd d else false
def AcR (w : World) (C : TC) (P : RP) (s : TSt) (now : Nat) (B : Bool) (m : Nat) (v1 : Value) (wr : World) : Prop :=
  ∃ (f : Nat) (d : Int), v1 = .int .i64 d ∧ accF C P s now f d = B ∧ d < (f : Int) ∧ f ≤ C.nd ∧ w = wr ∧ m = f
def AcI (w : World) (P : RP) (s : TSt) (now : Nat) (L : List Int) (m : Nat) (i : Value) (wr : World) : Prop :=
  ∃ j : Nat, j ≤ L.length ∧ i = .int .i64 (j : Int) ∧ (∀ v ∈ L.take j, powI P s.r v now = true) ∧ w = wr ∧ m = L.length - j
section
variable {w : World} {T : TP} {ds : List DV} {C : TC} {s : TSt}
set_option maxHeartbeats 8000000 in
set_option maxRecDepth 100000 in
theorem tacc_any (h : TrAt w T ds C s) (hC : TOk C) (d : Int) (now : Nat) :
    Calls Try.prog 23 #[.pointer (some ⟨T.b, 0, none⟩), .int .i64 d, .int .u64 (now : Int)] w fun e w' => e = .returned (.bool (accM C T.pr s d now)) ∧ w = w' := by
  have HAT := hide h
  have HC := hide hC
  by_cases hd : 0 ≤ d ∧ d < (C.nd : Int)
  case neg =>
    have HM : Hid (accM C T.pr s d now = false) := hide (by rw [accM, if_neg hd])
    have HB := hide (decide_eq_false hd)
    clear h hC hd
    go_enter Try.func23, Try.ntmps23
    go_wp2_with fail
    refine (texists_any HAT.out d).mono ?_
    rintro e w1 ⟨rfl, rfl⟩
    rw [HB.out]
    go_wp2
    go_ret
    exact ⟨by rw [HM.out]; rfl, rfl⟩
  have HM : Hid (accM C T.pr s d now = accF C T.pr s now C.nd d) := hide (by rw [accM, if_pos hd])
  have HB := hide (decide_eq_true hd)
  have hd2 := hd.2
  have hSS := (h.sS (by omega)).1
  have HSS := hide hSS
  clear h hC hd hSS
  generalize hBB : accF C T.pr s now C.nd d = B at HM
  have HBB := hide hBB
  clear hBB
  go_enter Try.func23, Try.ntmps23
  go_wp2_with fail
  refine (texists_any HAT.out d).mono ?_
  rintro e w1 ⟨rfl, rfl⟩
  rw [HB.out]
  clear HB
  go_wp2
  go_loopg [1] C.nd (fun m v1 wr => AcR w C T.pr s now B m v1 wr)
  case atStart => exact ⟨C.nd, d, rfl, HBB.out, hd2, Nat.le_refl _, rfl, rfl⟩
  case round =>
    clear hd2 HBB
    obtain ⟨f, d, rfl, hF, hdf, hfn, rfl, hmm⟩ := hrel
    have HF := hide hF
    have HMM := hide hmm
    clear hF hmm
    by_cases hd0 : 0 ≤ d
    · obtain ⟨q, rfl⟩ := Int.eq_ofNat_of_zero_le hd0
      obtain ⟨f', rfl⟩ : ∃ f', f = f' + 1 := ⟨f - 1, by omega⟩
      have hqn : q < C.nd := by omega
      have hqi : (q : Int) < (C.nd : Int) := by omega
      obtain ⟨x, hx, hpx, hrx, hra, ob, oo, hA, hpd⟩ := HAT.out.dev hqn
      obtain ⟨c0, c1, c2, -⟩ := HAT.out.cells
      rw [hA] at c0
      rw [HSS.out] at c1
      have q0 := HAT.out.stAt hqn
      have p0 := hpd.1
      rw [hpx] at p0
      obtain ⟨A0, cp0, e0, hrow⟩ := hra 0 (by omega)
      have p1 := hpd.2.1
      rw [e0, hrx] at p1
      rw [hrx] at hrow
      have HROW := hide hrow
      have hLn := HC.out.len q 0
      have hpb := HC.out.par q hqn
      have HF2 : Hid ((accR C T.pr s now q && accF C T.pr s now f' (C.par q)) = B) := hide (by
        have := HF.out
        rw [accF, if_neg (by omega), Int.toNat_natCast] at this
        exact this)
      have HAR := hide (show accR C T.pr s now q = (decide (s.st q = 0) && (C.rl q 0).all fun v => powI T.pr s.r v now) from rfl)
      have g0 : decide ((0 : Int) ≤ (q : Int)) = true := decide_eq_true (by omega)
      clear hx hpx hrx hra hA hpd e0 hrow HF hd0
      by_cases hs0 : s.st q = 0
      · have HAR2 : Hid (accR C T.pr s now q = (C.rl q 0).all fun v => powI T.pr s.r v now) := hide (by rw [HAR.out, hs0]; rfl)
        rw [hs0] at q0
        have q0' : w.cell? ⟨T.gS, q, none⟩ = some (.int .i64 0) := q0
        clear HAR hs0 q0
        generalize C.rl q 0 = L at p1 HROW hLn HAR2
        generalize C.par q = pq at p0 hpb HF2
        go_wp2
        go_loopg [41] L.length (fun m i wr => AcI w T.pr s now L m i wr)
        case atStart => exact ⟨0, by omega, rfl, (fun v hv => by simp at hv), rfl, rfl⟩
        case round =>
          obtain ⟨j, hj, rfl, hall, rfl, hmm⟩ := hrel
          have HM2 := hide hmm
          have HALL := hide hall
          clear hmm hall
          by_cases hjn : j < L.length
          · obtain ⟨v, hv⟩ : ∃ v, L[j]? = some v := ⟨_, List.getElem?_eq_getElem hjn⟩
            obtain ⟨o1, o2, rfl, e1⟩ := HROW.out.int hv
            have hji : (j : Int) < (L.length : Int) := by omega
            have HV := hide hv
            clear hv
            go_wp2_with fail
            refine (rpowered_any HAT.out.rl v now).mono ?_
            rintro e w1 ⟨rfl, rfl⟩
            generalize hpw : powI T.pr s.r v now = pw
            cases pw with
            | true =>
              have HA2 : Hid (∀ u ∈ L.take (j + 1), powI T.pr s.r u now = true) := hide (fun u hu => by
                rw [take_succ_some HV.out, List.mem_append, List.mem_singleton] at hu
                rcases hu with hu | rfl
                · exact HALL.out u hu
                · exact hpw)
              clear hpw
              go_wp2
              go_roundg (L.length - (j + 1))
              case measure => rw [HM2.out]; omega
              case rel => exact ⟨j + 1, by omega, by go_num, HA2.out, rfl, rfl⟩
            | false =>
              have HE : Hid (B = false) := hide (by
                rw [← HF2.out, HAR2.out, Bool.and_eq_false_iff]
                refine .inl (List.all_eq_false.2 ⟨v, List.mem_of_getElem? HV.out, by rw [hpw]; decide⟩))
              clear hpw
              go_wp2
              go_ret
              exact ⟨by rw [HM.out, HE.out]; rfl, rfl⟩
          · have hje : j = L.length := by omega
            subst hje
            have hji : ¬ (L.length : Int) < (L.length : Int) := by omega
            have HE : Hid (accF C T.pr s now f' pq = B) := hide (by
              rw [← HF2.out, HAR2.out, show (L.all fun v => powI T.pr s.r v now) = true from List.all_eq_true.2 (fun v hv => HALL.out v (by rw [List.take_length]; exact hv))]
              rfl)
            go_wp2
            go_roundg f'
            case measure => rw [HMM.out]; omega
            case rel => exact ⟨f', pq, rfl, HE.out, by omega, by omega, rfl, rfl⟩
      · have HE : Hid (B = false) := hide (by rw [← HF2.out, HAR.out, decide_eq_false hs0]; rfl)
        have g1 : ((s.st q : Int) != 0) = true := by simp [hs0]
        generalize s.st q = sq at q0 g1
        clear HAR hs0
        go_wp2
        go_ret
        exact ⟨by rw [HM.out, HE.out]; rfl, rfl⟩
    · have HE : Hid (B = true) := hide (by
        rw [← HF.out]
        cases f with
        | zero => rfl
        | succ f => rw [accF, if_pos (by omega)])
      have g0 : decide ((0 : Int) ≤ d) = false := decide_eq_false hd0
      clear HF
      go_wp2
      go_ret
      exact ⟨by rw [HM.out, HE.out]; rfl, rfl⟩
end
theorem accF_fuel (C : TC) (P : RP) (s : TSt) (now : Nat) (hC : TOk C) : ∀ (f f' : Nat) (d : Int), d < (C.nd : Int) → d < (f : Int) → d < (f' : Int) → accF C P s now f d = accF C P s now f' d
  | 0, 0, _, _, _, _ => rfl
  | 0, f' + 1, d, _, h, _ => by rw [accF, accF, if_pos (by omega)]
  | f + 1, 0, d, _, _, h => by rw [accF, accF, if_pos (by omega)]
  | f + 1, f' + 1, d, hd, h1, h2 => by
    rw [accF, accF]
    by_cases h0 : d < 0
    · rw [if_pos h0, if_pos h0]
    · have := hC.par d.toNat (by omega)
      rw [if_neg h0, if_neg h0, accF_fuel C P s now hC f f' _ (by omega) (by omega) (by omega)]
theorem acc_one {C : TC} {P : RP} {s : TSt} {now k : Nat} (hC : TOk C) (hk : k < C.nd) : accM C P s (k : Int) now = (accR C P s now k && (if C.par k < 0 then true else accM C P s (C.par k) now)) := by
  have hp := hC.par k hk
  obtain ⟨n, hn⟩ : ∃ n, C.nd = n + 1 := ⟨C.nd - 1, by omega⟩
  rw [accM, if_pos (by omega), hn, accF, if_neg (by omega), Int.toNat_natCast]
  congr 1
  by_cases h0 : C.par k < 0
  · rw [if_pos h0]
    cases n with
    | zero => rfl
    | succ n => rw [accF, if_pos h0]
  · rw [if_neg h0, accM, if_pos (by omega)]
    exact accF_fuel C P s now hC n C.nd _ (by omega) (by omega) (by omega)
theorem powI_mono {P : RP} {r : RSt} {v : Int} {t t' : Nat} (ht : t ≤ t') (h : powI P r v t = true) : powI P r v t' = true := by
  unfold powI at h ⊢
  rw [Bool.and_eq_true] at h ⊢
  exact ⟨h.1, decide_eq_true (Nat.le_trans (of_decide_eq_true h.2) ht)⟩
theorem accF_mono {C : TC} {P : RP} {s : TSt} {t t' : Nat} (ht : t ≤ t') : ∀ (f : Nat) (d : Int), accF C P s t f d = true → accF C P s t' f d = true
  | 0, _, _ => rfl
  | f + 1, d, h => by
    rw [accF] at h ⊢
    by_cases h0 : d < 0
    · rw [if_pos h0]
    · rw [if_neg h0, Bool.and_eq_true] at h
      rw [if_neg h0, Bool.and_eq_true]
      refine ⟨?_, accF_mono ht f _ h.2⟩
      have h1 := h.1
      unfold accR at h1 ⊢
      rw [Bool.and_eq_true] at h1 ⊢
      exact ⟨h1.1, List.all_eq_true.2 fun v hv => powI_mono ht (List.all_eq_true.1 h1.2 v hv)⟩
theorem acc_mono {C : TC} {P : RP} {s : TSt} {d : Int} {t t' : Nat} (ht : t ≤ t') (h : accM C P s d t = true) : accM C P s d t' = true := by
  unfold accM at h ⊢
  split
  · rename_i h0
    rw [if_pos h0] at h
    exact accF_mono ht _ _ h
  · rename_i h0
    rw [if_neg h0] at h
    exact h
end Go.Proofs.Ytdocdgghphhdpaa

