/- Walks: Tree.Accessible. -/
import Derived.Test.YtdocdgghphhdpaaMgDeviceTree13
import Derived.Test.YtdocdgghphhdpaaMgDeviceTree7
import Derived.Test.YtdocdgghphhdpaaMgDeviceTree18
import Derived.Test.YtdocdgghphhdpaaRqW3Mg
import Derived.Test.YtdocdgghphhdpaaMgDeviceTree14
namespace Go.Proofs.Ytdocdgghphhdpaa
open Go.RowKit

/-- Device d is in D0 with its rails powered. -/
def accR (C : TC) (P : RP) (s : TSt) (now d : Nat) : Bool := decide (s.st d = 0) && (C.rl d 0).all fun v => powI P s.r v now
/-- From d upwards. -/
def accF (C : TC) (P : RP) (s : TSt) (now : Nat) : Nat → Int → Bool
  | 0, _ => true
  | f + 1, d => if d < 0 then true else accR C P s now d.toNat && accF C P s now f (C.par d.toNat)
def accM (C : TC) (P : RP) (s : TSt) (d : Int) (now : Nat) : Bool := if 0 ≤ d ∧ d < (C.nd : Int) then accF C P s now C.nd d else false
def AcR (w : World) (C : TC) (P : RP) (s : TSt) (now : Nat) (B : Bool) (m : Nat) (v1 : Value) (wr : World) : Prop :=
  ∃ (f : Nat) (d : Int), v1 = .int .i64 d ∧ accF C P s now f d = B ∧ d < (f : Int) ∧ f ≤ C.nd ∧ w = wr ∧ m = f
def AcI (w : World) (P : RP) (s : TSt) (now : Nat) (L : List Int) (m : Nat) (i : Value) (wr : World) : Prop :=
  ∃ j : Nat, j ≤ L.length ∧ i = .int .i64 (j : Int) ∧ (∀ v ∈ L.take j, powI P s.r v now = true) ∧ w = wr ∧ m = L.length - j
section
variable {w : World} {T : TP} {ds : List DV} {C : TC} {s : TSt}
set_option maxHeartbeats 8000000 in
set_option maxRecDepth 100000 in
theorem tacc_any (h : TrAt w T ds C s) (hC : TOk C) (d : Int) (now : Nat) :
    Calls Try.prog 23 #[.pointer (some ⟨T.b, 0, none⟩), .int .i64 d, .int .u64 (now : Int)] w fun e w' => e = .returned (.bool (accM C T.pr s d now)) ∧ w = w' := by
  have HAT := hide h
  have HC := hide hC
  by_cases hd : 0 ≤ d ∧ d < (C.nd : Int)
  case neg =>
    have HM : Hid (accM C T.pr s d now = false) := hide (by rw [accM, if_neg hd])
    have HB := hide (decide_eq_false hd)
    clear h hC hd
    go_enter Try.func23, Try.ntmps23
    go_wp2_with fail
    refine (texists_any HAT.out d).mono ?_
    rintro e w1 ⟨rfl, rfl⟩
    rw [HB.out]
    go_wp2
    go_ret
    exact ⟨by rw [HM.out]; rfl, rfl⟩
  have HM : Hid (accM C T.pr s d now = accF C T.pr s now C.nd d) := hide (by rw [accM, if_pos hd])
  have HB := hide (decide_eq_true hd)
  have hd2 := hd.2
  have hSS := (h.sS (by omega)).1
  have HSS := hide hSS
  clear h hC hd hSS
  generalize hBB : accF C T.pr s now C.nd d = B at HM
  have HBB := hide hBB
  clear hBB
  go_enter Try.func23, Try.ntmps23
  go_wp2_with fail
  refine (texists_any HAT.out d).mono ?_
  rintro e w1 ⟨rfl, rfl⟩
  rw [HB.out]
  clear HB
  go_wp2
  go_loopg [1] C.nd (fun m v1 wr => AcR w C T.pr s now B m v1 wr)
  case atStart => exact ⟨C.nd, d, rfl, HBB.out, hd2, Nat.le_refl _, rfl, rfl⟩
  case round =>
    clear hd2 HBB
    obtain ⟨f, d, rfl, hF, hdf, hfn, rfl, hmm⟩ := hrel
    have HF := hide hF
    have HMM := hide hmm
    clear hF hmm
    by_cases hd0 : 0 ≤ d
    · obtain ⟨q, rfl⟩ := Int.eq_ofNat_of_zero_le hd0
      obtain ⟨f', rfl⟩ : ∃ f', f = f' + 1 := ⟨f - 1, by omega⟩
      have hqn : q < C.nd := by omega
      have hqi : (q : Int) < (C.nd : Int) := by omega
      obtain ⟨x, hx, hpx, hrx, hra, ob, oo, hA, hpd⟩ := HAT.out.dev hqn
      obtain ⟨c0, c1, c2, -⟩ := HAT.out.cells
      rw [hA] at c0
      rw [HSS.out] at c1
      have q0 := HAT.out.stAt hqn
      have p0 := hpd.1
      rw [hpx] at p0
      obtain ⟨A0, cp0, e0, hrow⟩ := hra 0 (by omega)
      have p1 := hpd.2.1
      rw [e0, hrx] at p1
      rw [hrx] at hrow
      have HROW := hide hrow
      have hLn := HC.out.len q 0
      have hpb := HC.out.par q hqn
      have HF2 : Hid ((accR C T.pr s now q && accF C T.pr s now f' (C.par q)) = B) := hide (by
        have := HF.out
        rw [accF, if_neg (by omega), Int.toNat_natCast] at this
        exact this)
      have HAR := hide (show accR C T.pr s now q = (decide (s.st q = 0) && (C.rl q 0).all fun v => powI T.pr s.r v now) from rfl)
      have g0 : decide ((0 : Int) ≤ (q : Int)) = true := decide_eq_true (by omega)
      clear hx hpx hrx hra hA hpd e0 hrow HF hd0
      by_cases hs0 : s.st q = 0
      · have HAR2 : Hid (accR C T.pr s now q = (C.rl q 0).all fun v => powI T.pr s.r v now) := hide (by rw [HAR.out, hs0]; rfl)
        rw [hs0] at q0
        have q0' : w.cell? ⟨T.gS, q, none⟩ = some (.int .i64 0) := q0
        clear HAR hs0 q0
        generalize C.rl q 0 = L at p1 HROW hLn HAR2
        generalize C.par q = pq at p0 hpb HF2
        go_wp2
        go_loopg [41] L.length (fun m i wr => AcI w T.pr s now L m i wr)
        case atStart => exact ⟨0, by omega, rfl, (fun v hv => by simp at hv), rfl, rfl⟩
        case round =>
          obtain ⟨j, hj, rfl, hall, rfl, hmm⟩ := hrel
          have HM2 := hide hmm
          have HALL := hide hall
          clear hmm hall
          by_cases hjn : j < L.length
          · obtain ⟨v, hv⟩ : ∃ v, L[j]? = some v := ⟨_, List.getElem?_eq_getElem hjn⟩
            obtain ⟨o1, o2, rfl, e1⟩ := HROW.out.int hv
            have hji : (j : Int) < (L.length : Int) := by omega
            have HV := hide hv
            clear hv
            go_wp2_with fail
            refine (rpowered_any HAT.out.rl v now).mono ?_
            rintro e w1 ⟨rfl, rfl⟩
            generalize hpw : powI T.pr s.r v now = pw
            cases pw with
            | true =>
              have HA2 : Hid (∀ u ∈ L.take (j + 1), powI T.pr s.r u now = true) := hide (fun u hu => by
                rw [take_succ_some HV.out, List.mem_append, List.mem_singleton] at hu
                rcases hu with hu | rfl
                · exact HALL.out u hu
                · exact hpw)
              clear hpw
              go_wp2
              go_roundg (L.length - (j + 1))
              case measure => rw [HM2.out]; omega
              case rel => exact ⟨j + 1, by omega, by go_num, HA2.out, rfl, rfl⟩
            | false =>
              have HE : Hid (B = false) := hide (by
                rw [← HF2.out, HAR2.out, Bool.and_eq_false_iff]
                refine .inl (List.all_eq_false.2 ⟨v, List.mem_of_getElem? HV.out, by rw [hpw]; decide⟩))
              clear hpw
              go_wp2
              go_ret
              exact ⟨by rw [HM.out, HE.out]; rfl, rfl⟩
          · have hje : j = L.length := by omega
            subst hje
            have hji : ¬ (L.length : Int) < (L.length : Int) := by omega
            have HE : Hid (accF C T.pr s now f' pq = B) := hide (by
              rw [← HF2.out, HAR2.out, show (L.all fun v => powI T.pr s.r v now) = true from List.all_eq_true.2 (fun v hv => HALL.out v (by rw [List.take_length]; exact hv))]
              rfl)
            go_wp2
            go_roundg f'
            case measure => rw [HMM.out]; omega
            case rel => exact ⟨f', pq, rfl, HE.out, by omega, by omega, rfl, rfl⟩
      · have HE : Hid (B = false) := hide (by rw [← HF2.out, HAR.out, decide_eq_false hs0]; rfl)
        have g1 : ((s.st q : Int) != 0) = true := by simp [hs0]
        generalize s.st q = sq at q0 g1
        clear HAR hs0
        go_wp2
        go_ret
        exact ⟨by rw [HM.out, HE.out]; rfl, rfl⟩
    · have HE : Hid (B = true) := hide (by
        rw [← HF.out]
        cases f with
        | zero => rfl
        | succ f => rw [accF, if_pos (by omega)])
      have g0 : decide ((0 : Int) ≤ d) = false := decide_eq_false hd0
      clear HF
      go_wp2
      go_ret
      exact ⟨by rw [HM.out, HE.out]; rfl, rfl⟩
end
theorem accF_fuel (C : TC) (P : RP) (s : TSt) (now : Nat) (hC : TOk C) : ∀ (f f' : Nat) (d : Int), d < (C.nd : Int) → d < (f : Int) → d < (f' : Int) → accF C P s now f d = accF C P s now f' d
  | 0, 0, _, _, _, _ => rfl
  | 0, f' + 1, d, _, h, _ => by rw [accF, accF, if_pos (by omega)]
  | f + 1, 0, d, _, _, h => by rw [accF, accF, if_pos (by omega)]
  | f + 1, f' + 1, d, hd, h1, h2 => by
    rw [accF, accF]
    by_cases h0 : d < 0
    · rw [if_pos h0, if_pos h0]
    · have := hC.par d.toNat (by omega)
      rw [if_neg h0, if_neg h0, accF_fuel C P s now hC f f' _ (by omega) (by omega) (by omega)]
theorem acc_one {C : TC} {P : RP} {s : TSt} {now k : Nat} (hC : TOk C) (hk : k < C.nd) : accM C P s (k : Int) now = (accR C P s now k && (if C.par k < 0 then true else accM C P s (C.par k) now)) := by
  have hp := hC.par k hk
  obtain ⟨n, hn⟩ : ∃ n, C.nd = n + 1 := ⟨C.nd - 1, by omega⟩
  rw [accM, if_pos (by omega), hn, accF, if_neg (by omega), Int.toNat_natCast]
  congr 1
  by_cases h0 : C.par k < 0
  · rw [if_pos h0]
    cases n with
    | zero => rfl
    | succ n => rw [accF, if_pos h0]
  · rw [if_neg h0, accM, if_pos (by omega)]
    exact accF_fuel C P s now hC n C.nd _ (by omega) (by omega) (by omega)
theorem powI_mono {P : RP} {r : RSt} {v : Int} {t t' : Nat} (ht : t ≤ t') (h : powI P r v t = true) : powI P r v t' = true := by
  unfold powI at h ⊢
  rw [Bool.and_eq_true] at h ⊢
  exact ⟨h.1, decide_eq_true (Nat.le_trans (of_decide_eq_true h.2) ht)⟩
theorem accF_mono {C : TC} {P : RP} {s : TSt} {t t' : Nat} (ht : t ≤ t') : ∀ (f : Nat) (d : Int), accF C P s t f d = true → accF C P s t' f d = true
  | 0, _, _ => rfl
  | f + 1, d, h => by
    rw [accF] at h ⊢
    by_cases h0 : d < 0
    · rw [if_pos h0]
    · rw [if_neg h0, Bool.and_eq_true] at h
      rw [if_neg h0, Bool.and_eq_true]
      refine ⟨?_, accF_mono ht f _ h.2⟩
      have h1 := h.1
      unfold accR at h1 ⊢
      rw [Bool.and_eq_true] at h1 ⊢
      exact ⟨h1.1, List.all_eq_true.2 fun v hv => powI_mono ht (List.all_eq_true.1 h1.2 v hv)⟩
theorem acc_mono {C : TC} {P : RP} {s : TSt} {d : Int} {t t' : Nat} (ht : t ≤ t') (h : accM C P s d t = true) : accM C P s d t' = true := by
  unfold accM at h ⊢
  split
  · rename_i h0
    rw [if_pos h0] at h
    exact accF_mono ht _ _ h
  · rename_i h0
    rw [if_neg h0] at h
    exact h
end Go.Proofs.Ytdocdgghphhdpaa

/- Walks: the reference's device tree: State, Accessible. -/
namespace Go.Proofs.Ytdocdgghphhdpaa
open Go.RowKit

section
variable {w : World} {T : TP} {ds : List DV} {C : TC} {s : TSt}
set_option maxHeartbeats 4000000 in
set_option maxRecDepth 100000 in
theorem tqstate_any (h : TqAt w T ds C s) (k : Int) :
    Calls Try.prog 28 #[.pointer (some ⟨T.b, 0, none⟩), .int .i64 k] w fun e w' => e = .returned (.int .i64 (stI C s k)) ∧ w = w' := by
  obtain ⟨c0, -, c2, -⟩ := h.cells
  by_cases h0 : k < 0
  · have b0 : decide (k < 0) = true := decide_eq_true h0
    have HE : Hid (stI C s k = -1) := hide (by rw [stI, if_neg (by omega)])
    clear h h0
    go_enter Try.func28, Try.ntmps28
    go_wp2
    go_ret
    exact ⟨by rw [HE.out]; rfl, rfl⟩
  have b0 : decide (k < 0) = false := decide_eq_false h0
  obtain ⟨q, rfl⟩ := Int.eq_ofNat_of_zero_le (show 0 ≤ k by omega)
  by_cases hq : q < C.nd
  · have d0 := h.stAt hq
    have hs := (h.sS (by omega)).1
    rw [hs] at c2
    have hqi : (q : Int) < (C.nd : Int) := by omega
    have b1 : decide ((C.nd : Int) ≤ (q : Int)) = false := decide_eq_false (by omega)
    have b1n : decide (C.nd ≤ q) = false := decide_eq_false (by omega)
    have HE : Hid (stI C s (q : Int) = (s.st q : Int)) := hide (by rw [stI, if_pos ⟨by omega, hqi⟩, Int.toNat_natCast])
    clear h h0 hq hs
    go_enter Try.func28, Try.ntmps28
    go_wp2
    go_ret
    exact ⟨by rw [HE.out]; rfl, rfl⟩
  · have b1 : decide ((C.nd : Int) ≤ (q : Int)) = true := decide_eq_true (by omega)
    have b1n : decide (C.nd ≤ q) = true := decide_eq_true (by omega)
    have HE : Hid (stI C s (q : Int) = -1) := hide (by rw [stI, if_neg (by omega)])
    clear h h0 hq
    go_enter Try.func28, Try.ntmps28
    go_wp2
    go_ret
    exact ⟨by rw [HE.out]; rfl, rfl⟩
end
end Go.Proofs.Ytdocdgghphhdpaa

/- Plain: the reference finds a cycle of supplies by walking n steps up; the program by an order: they say the same. -/
namespace Go.Proofs.Ytdocdgghphhdpaa
open Go.RowKit

/-- m steps up. -/
def climbR (R : Nat → RailD) : Nat → Int → Int
  | 0, a => a
  | m + 1, a => if 0 ≤ a then climbR R m (R a.toNat).sup else a
def outB (R : Nat → RailD) (n : Nat) : Bool := (List.range n).all fun i => decide (climbR R n (i : Int) < 0)
def rqnewM (R : Nat → RailD) (n : Nat) : Int := if 64 < n then 1 else if railsOkB R n = true then (if outB R n = true then 0 else 18) else 1
theorem climb_s (R : Nat → RailD) (m : Nat) (a : Int) : climbR R (m + 1) a = if 0 ≤ a then climbR R m (R a.toNat).sup else a := rfl
theorem climb_neg (R : Nat → RailD) {a : Int} (h : a < 0) : ∀ m, climbR R m a = a
  | 0 => rfl
  | m + 1 => by rw [climb_s, if_neg (by omega)]
theorem climb_more (R : Nat → RailD) : ∀ (m : Nat) (a : Int), climbR R m a < 0 → climbR R (m + 1) a = climbR R m a
  | 0, a, h => climb_neg R h 1
  | m + 1, a, h => by
    by_cases h0 : 0 ≤ a
    · rw [climb_s, if_pos h0] at h
      rw [climb_s R (m + 1), if_pos h0, climb_s R m a, if_pos h0]
      exact climb_more R m _ h
    · rw [climb_neg R (by omega), climb_neg R (by omega)]
theorem climb_mono (R : Nat → RailD) {m : Nat} {a : Int} (h : climbR R m a < 0) : ∀ j, climbR R (m + j) a < 0
  | 0 => h
  | j + 1 => by
    have h1 := climb_mono R h j
    have h2 := climb_more R (m + j) a h1
    show climbR R (m + j + 1) a < 0
    rw [h2]
    exact h1
/-- How many steps lead out. -/
def stepsR (R : Nat → RailD) : Nat → Int → Nat
  | 0, _ => 0
  | m + 1, a => if 0 ≤ a then 1 + stepsR R m (R a.toNat).sup else 0
theorem steps_s (R : Nat → RailD) (m : Nat) (a : Int) : stepsR R (m + 1) a = if 0 ≤ a then 1 + stepsR R m (R a.toNat).sup else 0 := rfl
theorem steps_more (R : Nat → RailD) : ∀ (m : Nat) (a : Int), climbR R m a < 0 → stepsR R (m + 1) a = stepsR R m a
  | 0, a, h => by
    have h0 : a < 0 := h
    rw [steps_s, if_neg (by omega)]
    rfl
  | m + 1, a, h => by
    by_cases h0 : 0 ≤ a
    · rw [climb_s, if_pos h0] at h
      rw [steps_s R (m + 1), if_pos h0, steps_more R m _ h, steps_s R m a, if_pos h0]
    · rw [steps_s R (m + 1), if_neg h0, steps_s R m a, if_neg h0]
theorem out_rank {R : Nat → RailD} {n : Nat} (hok : ∀ i, i < n → railOkD n (R i)) (h : ∀ i, i < n → climbR R n (i : Int) < 0) : RankR n R (fun i => stepsR R n (i : Int)) := fun k hk => by
  by_cases h0 : (R k).sup < 0
  · exact .inl h0
  · obtain ⟨q, hq⟩ := Int.eq_ofNat_of_zero_le (show 0 ≤ (R k).sup by omega)
    have hlt := (hok k hk).2.1
    refine .inr ⟨q, hq, by omega, ?_⟩
    obtain ⟨m, rfl⟩ : ∃ m, n = m + 1 := ⟨n - 1, by omega⟩
    have hc := h k hk
    rw [climb_s, if_pos (by omega), Int.toNat_natCast, hq] at hc
    show stepsR R (m + 1) (q : Int) < stepsR R (m + 1) (k : Int)
    rw [steps_more R m _ hc, steps_s R m (k : Int), if_pos (by omega), Int.toNat_natCast, hq]
    omega
theorem rlN_has {R : Nat → RailD} : ∀ {n i q : Nat}, i < n → (R i).sup = (q : Int) → (i, q) ∈ rlN R n
  | 0, _, _, h, _ => by omega
  | n + 1, i, q, h, hq => by
    rw [rlN]
    by_cases e : i = n
    · subst e
      rw [if_pos (by omega), hq]
      simp
    · have := rlN_has (R := R) (n := n) (by omega) hq
      split
      · exact List.mem_append_left _ this
      · exact this
theorem order_out {R : Nat → RailD} {n : Nat} {o : List Nat} (hc : ∀ (i : Nat) (v : Nat), o[i]? = some v → ∀ p ∈ rlN R n, p.1 = v → p.2 ∈ o.take i) (hl : ∀ v ∈ o, v < n) : ∀ i, i ≤ o.length → ∀ v ∈ o.take i, climbR R i (v : Int) < 0
  | 0, _, v, hv => by simp at hv
  | i + 1, hi, v, hv => by
    have hx : o[i]? = some o[i] := List.getElem?_eq_getElem (by omega)
    rw [take_succ_some hx, List.mem_append, List.mem_singleton] at hv
    rcases hv with hv | rfl
    · exact climb_mono R (order_out hc hl i (by omega) v hv) 1
    · rw [climb_s, if_pos (by omega), Int.toNat_natCast]
      by_cases h0 : (R o[i]).sup < 0
      · rw [climb_neg R h0]
        exact h0
      · obtain ⟨q, hq⟩ := Int.eq_ofNat_of_zero_le (show 0 ≤ (R o[i]).sup by omega)
        rw [hq]
        exact order_out hc hl i (by omega) q (hc i _ hx _ (rlN_has (hl _ (List.getElem_mem _)) hq) rfl)
theorem rqnew_eq (R : Nat → RailD) (n : Nat) : rqnewM R n = rnewM R n := by
  unfold rqnewM rnewM
  by_cases h64 : 64 < n
  · rw [if_pos h64, if_pos h64]
  rw [if_neg h64, if_neg h64]
  by_cases hno : ¬ railsOkB R n = true
  · rw [if_neg hno, if_neg hno]
  have hok : railsOkB R n = true := Classical.not_not.1 hno
  rw [if_pos hok, if_pos hok]
  have hall : ∀ i, i < n → railOkD n (R i) := fun i hi => of_decide_eq_true (List.all_eq_true.1 hok i (List.mem_range.2 hi))
  have hlt : ∀ p ∈ rlN R n, p.1 < n ∧ p.2 < n := fun p hp => by
    obtain ⟨a, b⟩ := rlN_mem hp
    have := (hall p.1 a).2.1
    omega
  by_cases ho : outB R n = true
  · rw [if_pos ho]
    exact (rank_check (out_rank hall (fun i hi => of_decide_eq_true (List.all_eq_true.1 ho i (List.mem_range.2 hi)))) (by omega)).symm
  · rw [if_neg ho]
    have hl := rlLinks_len R n
    have hb : basicM (n : Int) (rlLinks R n) = 0 := by
      rw [rlN_of]
      refine basicM_ok ⟨by omega, by omega, by rw [← rlN_of]; omega, fun p hp => ?_⟩ ?_
      · obtain ⟨q, hq, rfl⟩ := List.mem_map.1 hp
        have := hlt q hq
        unfold LinkOk ofN
        simp only
        omega
      · unfold ofNs List.Nodup
        rw [List.pairwise_map]
        exact List.Pairwise.imp (fun hne e => hne (ofN_inj e)) (rlN_nodup R n)
    have hf : ¬ (greedy n (rlN R n)).length = n := fun hf => ho (by
      refine List.all_eq_true.2 (fun i hi => decide_eq_true ?_)
      have hgo := greedy_ok n (rlN R n)
      have hmem := mem_of_full hgo.lt hgo.nodup hf (List.mem_range.1 hi)
      have h := order_out (greedy_prefix n (rlN R n)) hgo.lt n (by omega) i (by rw [List.take_of_length_le (by omega)]; exact hmem)
      exact h)
    unfold checkM orderM
    rw [if_pos hb, Int.toNat_natCast, rlN_of, toNs_ofNs, if_neg hf]
end Go.Proofs.Ytdocdgghphhdpaa

