/- Rails, devices and the tree as the laws make them; the tree's blocks lie above all that stood. -/
import Derived.Test.YtdocdgghphhdpaaMgSuspFail17
import Derived.Test.YtdocdgghphhdpaaMgSuspFail13
import Derived.Test.YtdocdgghphhdpaaMgSuspFail7
namespace Go.Proofs.Ytdocdgghphhdpaa
open Go.RowKit

theorem brd_new3 {w w1 w2 : World} {A8 A7 : Option Addr} {c8 c7 m : Nat} {R : Nat → RailD} {rk : Nat → Nat} {raw out : List DV} (h25 : w1.ownsRow w.heap.size 49 3 (.slice A7 m c7) m (rlcs R m)) (hg : Good25 m R rk) (f1 : Fr [] w w1)
    (h27 : w2.ownsRow w1.heap.size 46 13 (.slice A8 out.length c8) out.length (dvcs out)) (hrl : ∀ x ∈ out, OwnRails w2 w1.heap.size x.d x.rl) (hso : SomeTo raw out m (min raw.length 6)) (f2 : Fr [] w1 w2) :
    ∃ C : TC, C.n = m ∧ out.length = C.nd ∧ (∀ i x, out[i]? = some x → x.d.par = C.par i ∧ x.rl = C.rl i) ∧ TOk C ∧ ∀ w2', Fr [] w2 w2' → Calls Try.prog 18 #[.slice A8 out.length c8, .slice A7 m c7] w2' (fun e w3 => ∃ T ds', e = .returned (.tuple #[.pointer (some ⟨T.b, 0, none⟩), .int .i64 0]) ∧ Brd w w3 A8 A7 out C T ds' ∧ Fr [] w2' w3 ∧ ∀ g ∈ T.wr, w2'.heap.size ≤ g) := by
  have hsok := someOk_of hso
  obtain ⟨ch, hch⟩ := good_ch hg
  have hn8 := hg.n8
  have hok := mkTC_ok hsok hn8 hch
  have h6 := hsok.len
  obtain ⟨A8', c8', e8, -, hr8, hb8⟩ := own_slice h27
  injection e8 with e8 _ e8c
  subst e8 e8c
  have h25' := own_fr h25 f2 (fun _ _ => by simp)
  obtain ⟨A7', c7', e7, hn7, hr7, hb7⟩ := own_slice h25'
  injection e7 with e7 _ e7c
  subst e7 e7c
  have hdv : DvsAt w2 A8 out := ⟨hr8, fun x hx => (hrl x hx).at_⟩
  have hbk : ∀ x ∈ out, ∀ q, q < 4 → ∀ ad n c, x.d.rf q = .slice (some ad) n c → ad.block < w2.heap.size := fun x hx q hq ad n c e => (own_block (hrl x hx q hq) (by rw [e]; rfl)).2.1
  refine ⟨mkTC out m R ch, rfl, rfl, mkTC_tie out m R ch, hok, fun w2' hfx => (dnew_any A8 c8 out A7 c7 (mkTC out m R ch) w2' (hdv.fr0 hfx) (fun x hx k => ?_) (by unfold maxLen; omega) (fun x hx q hq n c e => ?_) rfl (mkTC_tie out m R ch) (hr7.fr0 hfx) (fun e => ?_) (fun ad e => Nat.lt_of_lt_of_le (hb7 ad e).2 hfx.size) (by show m ≤ maxLen; unfold maxLen; omega)).mono ?_⟩
  · obtain ⟨i, hi⟩ := List.getElem?_of_mem hx
    obtain ⟨r, rf, rfl⟩ := hsok.el i x hi
    have := (someRl_ok r m k).2.2
    show (someRl r m k).length ≤ 4096
    omega
  · rcases (hrl x hx q hq).2 with ⟨h0, h1⟩ | ⟨g, cap, cur, hv, _⟩
    · rw [h0] at e
      injection e with _ _ e
      exact e.symm
    · rw [hv] at e
      injection e with e
      cases e
  · rcases h25'.2 with ⟨h0, h1⟩ | ⟨g, cap, cur, hv, _⟩
    · injection h0 with _ a b
      exact ⟨b, h1⟩
    · injection hv with hv
      rw [e] at hv
      cases hv
  · rintro e w3 ⟨hf3, ⟨hne, -⟩ | ⟨-, T, ds', rfl, hat, hnew, hhi⟩⟩
    · exact absurd (good_new hsok hg) hne
    have hnew2 := hnew
    refine ⟨T, ds', rfl, ?_, hf3, fun g hg => by
      obtain ⟨n1, n2, n3, n4, n5⟩ := hnew2
      simp only [TP.wr, List.mem_cons, List.not_mem_nil, or_false] at hg
      omega⟩
    have hsx := hfx.size
    have hge : ∀ g ∈ T.wr, w2.heap.size ≤ g := fun g hg => by
      obtain ⟨n1, n2, n3, n4, n5⟩ := hnew
      simp only [TP.wr, List.mem_cons, List.not_mem_nil, or_false] at hg
      omega
    have hlt : ∀ g ∈ T.wr, g < w3.heap.size := fun g hg => by
      have hlw := hat.low
      obtain ⟨h1, h2, ⟨h3, h4, h5, -⟩, -, -⟩ := hlw
      simp only [TP.wr, List.mem_cons, List.not_mem_nil, or_false] at hg
      omega
    have hs1 := f1.size
    have hs2 := f2.size
    refine ⟨hsok, rfl, hn8, h6, mkTC_tie out m R ch, hok, hg.lim, ⟨rk, hg.rank, hg.rk8⟩, hat, ((f1.call f2).call hfx).call hf3, fun g hg => ⟨Nat.le_trans (Nat.le_trans hs1 hs2) (hge g hg), hlt g hg⟩, fun w' k => ?_⟩
    have hd3 := (hdv.fr0 hfx).fr0 hf3
    refine ⟨⟨row_out hd3.1 k (fun ad e hm => ?_), fun x hx => ?_⟩, row_out ((hr7.fr0 hfx).fr0 hf3) k (fun ad e hm => ?_)⟩
    · have := (hb8 ad e).2
      have := hge _ hm
      omega
    · intro q hq
      obtain ⟨A, cp, e, hr⟩ := hd3.2 x hx q hq
      refine ⟨A, cp, e, row_out hr k (fun ad ea hm => ?_)⟩
      subst ea
      have := hbk x hx q hq ad _ _ e
      have := hge _ hm
      omega
    · have := (hb7 ad e).2
      have := hge _ hm
      omega
end Go.Proofs.Ytdocdgghphhdpaa

/- Walks: Tree.Accessible. -/
namespace Go.Proofs.Ytdocdgghphhdpaa
open Go.RowKit

/-- Device d is in D0 with its rails powered. -/
def accR (C : TC) (P : RP) (s : TSt) (now d : Nat) : Bool := decide (s.st d = 0) && (C.rl d 0).all fun v => powI P s.r v now
/-- From d upwards. -/
def accF (C : TC) (P : RP) (s : TSt) (now : Nat) : Nat → Int → Bool
  | 0, _ => true
  | f + 1, d => if d < 0 then true else accR C P s now d.toNat && accF C P s now f (C.par d.toNat)
def accM (C : TC) (P : RP) (s : TSt) (d : Int) (now : Nat) : Bool := if 0 ≤ d ∧ d < (C.nd : Int) then accF C P s now C.nd d else false
def AcR (w : World) (C : TC) (P : RP) (s : TSt) (now : Nat) (B : Bool) (m : Nat) (v1 : Value) (wr : World) : Prop :=
  ∃ (f : Nat) (d : Int), v1 = .int .i64 d ∧ accF C P s now f d = B ∧ d < (f : Int) ∧ f ≤ C.nd ∧ w = wr ∧ m = f
def AcI (w : World) (P : RP) (s : TSt) (now : Nat) (L : List Int) (m : Nat) (i : Value) (wr : World) : Prop :=
  ∃ j : Nat, j ≤ L.length ∧ i = .int .i64 (j : Int) ∧ (∀ v ∈ L.take j, powI P s.r v now = true) ∧ w = wr ∧ m = L.length - j
section
variable {w : World} {T : TP} {ds : List DV} {C : TC} {s : TSt}
set_option maxHeartbeats 8000000 in
set_option maxRecDepth 100000 in
theorem tacc_any (h : TrAt w T ds C s) (hC : TOk C) (d : Int) (now : Nat) :
    Calls Try.prog 23 #[.pointer (some ⟨T.b, 0, none⟩), .int .i64 d, .int .u64 (now : Int)] w fun e w' => e = .returned (.bool (accM C T.pr s d now)) ∧ w = w' := by
  have HAT := hide h
  have HC := hide hC
  by_cases hd : 0 ≤ d ∧ d < (C.nd : Int)
  case neg =>
    have HM : Hid (accM C T.pr s d now = false) := hide (by rw [accM, if_neg hd])
    have HB := hide (decide_eq_false hd)
    clear h hC hd
    go_enter Try.func23, Try.ntmps23
    go_wp2_with fail
    refine (texists_any HAT.out d).mono ?_
    rintro e w1 ⟨rfl, rfl⟩
    rw [HB.out]
    go_wp2
    go_ret
    exact ⟨by rw [HM.out]; rfl, rfl⟩
  have HM : Hid (accM C T.pr s d now = accF C T.pr s now C.nd d) := hide (by rw [accM, if_pos hd])
  have HB := hide (decide_eq_true hd)
  have hd2 := hd.2
  have hSS := (h.sS (by omega)).1
  have HSS := hide hSS
  clear h hC hd hSS
  generalize hBB : accF C T.pr s now C.nd d = B at HM
  have HBB := hide hBB
  clear hBB
  go_enter Try.func23, Try.ntmps23
  go_wp2_with fail
  refine (texists_any HAT.out d).mono ?_
  rintro e w1 ⟨rfl, rfl⟩
  rw [HB.out]
  clear HB
  go_wp2
  go_loopg [1] C.nd (fun m v1 wr => AcR w C T.pr s now B m v1 wr)
  case atStart => exact ⟨C.nd, d, rfl, HBB.out, hd2, Nat.le_refl _, rfl, rfl⟩
  case round =>
    clear hd2 HBB
    obtain ⟨f, d, rfl, hF, hdf, hfn, rfl, hmm⟩ := hrel
    have HF := hide hF
    have HMM := hide hmm
    clear hF hmm
    by_cases hd0 : 0 ≤ d
    · obtain ⟨q, rfl⟩ := Int.eq_ofNat_of_zero_le hd0
      obtain ⟨f', rfl⟩ : ∃ f', f = f' + 1 := ⟨f - 1, by omega⟩
      have hqn : q < C.nd := by omega
      have hqi : (q : Int) < (C.nd : Int) := by omega
      obtain ⟨x, hx, hpx, hrx, hra, ob, oo, hA, hpd⟩ := HAT.out.dev hqn
      obtain ⟨c0, c1, c2, -⟩ := HAT.out.cells
      rw [hA] at c0
      rw [HSS.out] at c1
      have q0 := HAT.out.stAt hqn
      have p0 := hpd.1
      rw [hpx] at p0
      obtain ⟨A0, cp0, e0, hrow⟩ := hra 0 (by omega)
      have p1 := hpd.2.1
      rw [e0, hrx] at p1
      rw [hrx] at hrow
      have HROW := hide hrow
      have hLn := HC.out.len q 0
      have hpb := HC.out.par q hqn
      have HF2 : Hid ((accR C T.pr s now q && accF C T.pr s now f' (C.par q)) = B) := hide (by
        have := HF.out
        rw [accF, if_neg (by omega), Int.toNat_natCast] at this
        exact this)
      have HAR := hide (show accR C T.pr s now q = (decide (s.st q = 0) && (C.rl q 0).all fun v => powI T.pr s.r v now) from rfl)
      have g0 : decide ((0 : Int) ≤ (q : Int)) = true := decide_eq_true (by omega)
      clear hx hpx hrx hra hA hpd e0 hrow HF hd0
      by_cases hs0 : s.st q = 0
      · have HAR2 : Hid (accR C T.pr s now q = (C.rl q 0).all fun v => powI T.pr s.r v now) := hide (by rw [HAR.out, hs0]; rfl)
        rw [hs0] at q0
        have q0' : w.cell? ⟨T.gS, q, none⟩ = some (.int .i64 0) := q0
        clear HAR hs0 q0
        generalize C.rl q 0 = L at p1 HROW hLn HAR2
        generalize C.par q = pq at p0 hpb HF2
        go_wp2
        go_loopg [41] L.length (fun m i wr => AcI w T.pr s now L m i wr)
        case atStart => exact ⟨0, by omega, rfl, (fun v hv => by simp at hv), rfl, rfl⟩
        case round =>
          obtain ⟨j, hj, rfl, hall, rfl, hmm⟩ := hrel
          have HM2 := hide hmm
          have HALL := hide hall
          clear hmm hall
          by_cases hjn : j < L.length
          · obtain ⟨v, hv⟩ : ∃ v, L[j]? = some v := ⟨_, List.getElem?_eq_getElem hjn⟩
            obtain ⟨o1, o2, rfl, e1⟩ := HROW.out.int hv
            have hji : (j : Int) < (L.length : Int) := by omega
            have HV := hide hv
            clear hv
            go_wp2_with fail
            refine (rpowered_any HAT.out.rl v now).mono ?_
            rintro e w1 ⟨rfl, rfl⟩
            generalize hpw : powI T.pr s.r v now = pw
            cases pw with
            | true =>
              have HA2 : Hid (∀ u ∈ L.take (j + 1), powI T.pr s.r u now = true) := hide (fun u hu => by
                rw [take_succ_some HV.out, List.mem_append, List.mem_singleton] at hu
                rcases hu with hu | rfl
                · exact HALL.out u hu
                · exact hpw)
              clear hpw
              go_wp2
              go_roundg (L.length - (j + 1))
              case measure => rw [HM2.out]; omega
              case rel => exact ⟨j + 1, by omega, by go_num, HA2.out, rfl, rfl⟩
            | false =>
              have HE : Hid (B = false) := hide (by
                rw [← HF2.out, HAR2.out, Bool.and_eq_false_iff]
                refine .inl (List.all_eq_false.2 ⟨v, List.mem_of_getElem? HV.out, by rw [hpw]; decide⟩))
              clear hpw
              go_wp2
              go_ret
              exact ⟨by rw [HM.out, HE.out]; rfl, rfl⟩
          · have hje : j = L.length := by omega
            subst hje
            have hji : ¬ (L.length : Int) < (L.length : Int) := by omega
            have HE : Hid (accF C T.pr s now f' pq = B) := hide (by
              rw [← HF2.out, HAR2.out, show (L.all fun v => powI T.pr s.r v now) = true from List.all_eq_true.2 (fun v hv => HALL.out v (by rw [List.take_length]; exact hv))]
              rfl)
            go_wp2
            go_roundg f'
            case measure => rw [HMM.out]; omega
            case rel => exact ⟨f', pq, rfl, HE.out, by omega, by omega, rfl, rfl⟩
      · have HE : Hid (B = false) := hide (by rw [← HF2.out, HAR.out, decide_eq_false hs0]; rfl)
        have g1 : ((s.st q : Int) != 0) = true := by simp [hs0]
        generalize s.st q = sq at q0 g1
        clear HAR hs0
        go_wp2
        go_ret
        exact ⟨by rw [HM.out, HE.out]; rfl, rfl⟩
    · have HE : Hid (B = true) := hide (by
        rw [← HF.out]
        cases f with
        | zero => rfl
        | succ f => rw [accF, if_pos (by omega)])
      have g0 : decide ((0 : Int) ≤ d) = false := decide_eq_false hd0
      clear HF
      go_wp2
      go_ret
      exact ⟨by rw [HM.out, HE.out]; rfl, rfl⟩
end
theorem accF_fuel (C : TC) (P : RP) (s : TSt) (now : Nat) (hC : TOk C) : ∀ (f f' : Nat) (d : Int), d < (C.nd : Int) → d < (f : Int) → d < (f' : Int) → accF C P s now f d = accF C P s now f' d
  | 0, 0, _, _, _, _ => rfl
  | 0, f' + 1, d, _, h, _ => by rw [accF, accF, if_pos (by omega)]
  | f + 1, 0, d, _, _, h => by rw [accF, accF, if_pos (by omega)]
  | f + 1, f' + 1, d, hd, h1, h2 => by
    rw [accF, accF]
    by_cases h0 : d < 0
    · rw [if_pos h0, if_pos h0]
    · have := hC.par d.toNat (by omega)
      rw [if_neg h0, if_neg h0, accF_fuel C P s now hC f f' _ (by omega) (by omega) (by omega)]
theorem acc_one {C : TC} {P : RP} {s : TSt} {now k : Nat} (hC : TOk C) (hk : k < C.nd) : accM C P s (k : Int) now = (accR C P s now k && (if C.par k < 0 then true else accM C P s (C.par k) now)) := by
  have hp := hC.par k hk
  obtain ⟨n, hn⟩ : ∃ n, C.nd = n + 1 := ⟨C.nd - 1, by omega⟩
  rw [accM, if_pos (by omega), hn, accF, if_neg (by omega), Int.toNat_natCast]
  congr 1
  by_cases h0 : C.par k < 0
  · rw [if_pos h0]
    cases n with
    | zero => rfl
    | succ n => rw [accF, if_pos h0]
  · rw [if_neg h0, accM, if_pos (by omega)]
    exact accF_fuel C P s now hC n C.nd _ (by omega) (by omega) (by omega)
theorem powI_mono {P : RP} {r : RSt} {v : Int} {t t' : Nat} (ht : t ≤ t') (h : powI P r v t = true) : powI P r v t' = true := by
  unfold powI at h ⊢
  rw [Bool.and_eq_true] at h ⊢
  exact ⟨h.1, decide_eq_true (Nat.le_trans (of_decide_eq_true h.2) ht)⟩
theorem accF_mono {C : TC} {P : RP} {s : TSt} {t t' : Nat} (ht : t ≤ t') : ∀ (f : Nat) (d : Int), accF C P s t f d = true → accF C P s t' f d = true
  | 0, _, _ => rfl
  | f + 1, d, h => by
    rw [accF] at h ⊢
    by_cases h0 : d < 0
    · rw [if_pos h0]
    · rw [if_neg h0, Bool.and_eq_true] at h
      rw [if_neg h0, Bool.and_eq_true]
      refine ⟨?_, accF_mono ht f _ h.2⟩
      have h1 := h.1
      unfold accR at h1 ⊢
      rw [Bool.and_eq_true] at h1 ⊢
      exact ⟨h1.1, List.all_eq_true.2 fun v hv => powI_mono ht (List.all_eq_true.1 h1.2 v hv)⟩
theorem acc_mono {C : TC} {P : RP} {s : TSt} {d : Int} {t t' : Nat} (ht : t ≤ t') (h : accM C P s d t = true) : accM C P s d t' = true := by
  unfold accM at h ⊢
  split
  · rename_i h0
    rw [if_pos h0] at h
    exact accF_mono ht _ _ h
  · rename_i h0
    rw [if_neg h0] at h
    exact h
end Go.Proofs.Ytdocdgghphhdpaa

