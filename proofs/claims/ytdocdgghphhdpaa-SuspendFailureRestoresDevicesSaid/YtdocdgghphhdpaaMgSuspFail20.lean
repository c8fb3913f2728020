/- Walks over suspend's inner methods: device, skip. -/
import Derived.Test.YtdocdgghphhdpaaProg
import Derived.Test.YtdocdgghphhdpaaSuspM
import Derived.Deep.QuietTactic
import Derived.BigQuiet
import Derived.Lib.Hide
import Derived.Deep.LoopGhost
import Derived.Deep.RegionHeld3
import Derived.Deep.Cut
import Derived.Deep.CutBlock
namespace Go.Proofs.Ytdocdgghphhdpaa
open Go.RowKit

set_option maxHeartbeats 400000 in
theorem device_fwd (b ob oo cp n : Nat) (ph po d : Int) (w : World)
    (h0 : w.cell? ⟨b, 0, none⟩ = some (.slice (some ⟨ob, oo, none⟩) n cp)) (h2 : w.cell? ⟨b, 2, none⟩ = some (.int .i64 ph)) (h3 : w.cell? ⟨b, 3, none⟩ = some (.int .i64 po))
    (hn : (n : Int) ≤ 64) (hp0 : 0 ≤ po) (hpn : po < n) (hd : w.cell? ⟨ob, oo + po.toNat, none⟩ = some (.int .i64 d))
    (e2 : (ph == 2) = false) (e3 : (ph == 3) = false) (e4 : (ph == 4) = false) (e8 : (ph == 8) = false) :
    Calls Try.prog 75 #[.pointer (some ⟨b, 0, none⟩)] w fun e w' => e = .returned (.int .i64 d) ∧ ∃ k, w' = w.drewN k := by
  go_enter Try.func75, Try.ntmps75
  go_wp2
  go_quiet (fail)
  go_wp2
  go_ret
  exact ⟨rfl, _, rfl⟩
set_option maxHeartbeats 400000 in
theorem device_bwd (b ob oo cp n : Nat) (ph po d : Int) (w : World)
    (h0 : w.cell? ⟨b, 0, none⟩ = some (.slice (some ⟨ob, oo, none⟩) n cp)) (h2 : w.cell? ⟨b, 2, none⟩ = some (.int .i64 ph)) (h3 : w.cell? ⟨b, 3, none⟩ = some (.int .i64 po))
    (hn : (n : Int) ≤ 64) (hp0 : 0 ≤ po) (hpn : po < n) (hd : w.cell? ⟨ob, oo + ((n : Int) - 1 - po).toNat, none⟩ = some (.int .i64 d))
    (hph : ph = 2 ∨ ph = 3 ∨ ph = 4 ∨ ph = 8) :
    Calls Try.prog 75 #[.pointer (some ⟨b, 0, none⟩)] w fun e w' => e = .returned (.int .i64 d) ∧ ∃ k, w' = w.drewN k := by
  rcases hph with rfl | rfl | rfl | rfl
  all_goals
    go_enter Try.func75, Try.ntmps75
    go_wp2
    go_quiet (fail)
    go_wp2
    go_ret
    exact ⟨rfl, _, rfl⟩

theorem device_any {b : Nat} {S : Seq} {w : World} {d : Nat} (h : SeqAt w b S) (ho : OkOrd S.ord) (hp : S.po < S.ord.length) (hdd : S.dev = d) :
    Calls Try.prog 75 #[.pointer (some ⟨b, 0, none⟩)] w fun e w' => e = .returned (.int .i64 d) ∧ ∃ k, w' = w.drewN k := by
  subst hdd
  obtain ⟨A, cp, h0, h1, h2, h3, h4, hs, hf, hr, hoff⟩ := h.cells
  have h64 := ho.1
  have hget : ∀ k, k < S.ord.length → (S.ord.map nv)[k]? = some (.int .i64 ((S.ord.getD k 0 : Nat) : Int)) := fun k hk => by
    simp [List.getD_eq_getElem?_getD, List.getElem?_eq_getElem hk, nv]
  cases hrev : rev S.ph
  · obtain ⟨ob, oo, rfl, hc⟩ := hr.at_ (hget S.po hp)
    have hd : S.dev = S.ord.getD S.po 0 := by simp [Seq.dev, devAt, hrev]
    simp only [rev, Bool.or_eq_false_iff, beq_eq_false_iff_ne] at hrev
    rw [hd]
    exact device_fwd b ob oo cp _ _ _ _ w h0 h2 h3 (by omega) (by omega) (by omega) (by simpa using hc) (beq_eq_false_iff_ne.2 (by omega)) (beq_eq_false_iff_ne.2 (by omega)) (beq_eq_false_iff_ne.2 (by omega)) (beq_eq_false_iff_ne.2 (by omega))
  · obtain ⟨ob, oo, rfl, hc⟩ := hr.at_ (hget (S.ord.length - 1 - S.po) (by omega))
    have hd : S.dev = S.ord.getD (S.ord.length - 1 - S.po) 0 := by simp [Seq.dev, devAt, hrev]
    simp only [rev, Bool.or_eq_true, beq_iff_eq] at hrev
    rw [hd]
    exact device_bwd b ob oo cp _ _ _ _ w h0 h2 h3 (by omega) (by omega) (by omega) (by rw [show ((S.ord.length : Int) - 1 - (S.po : Int)).toNat = S.ord.length - 1 - S.po by omega]; exact hc) (by omega)

def SkipRel (w : World) (b : Nat) (S : Seq) (n : Nat) (wr : World) : Prop :=
  ∃ ph po : Nat, 5 ≤ ph ∧ ph ≤ 9 ∧ po ≤ S.ord.length ∧ SeqAt wr b { S with ph := ph, po := po } ∧ Fr [b] w wr ∧
    skipF S.ord S.sc (9 - ph) ph po = skipF S.ord S.sc (9 - S.ph) S.ph S.po ∧ n = 9 - ph
def ScanRel (w : World) (b : Nat) (S : Seq) (ph po : Nat) (n : Nat) (wr : World) : Prop :=
  ∃ q : Nat, q ≤ S.ord.length ∧ SeqAt wr b { S with ph := ph, po := q } ∧ Fr [b] w wr ∧
    scan S.ord S.sc ph (S.ord.length - q) q = scan S.ord S.sc ph (S.ord.length - po) po ∧ n = S.ord.length - q

set_option maxHeartbeats 1000000 in
theorem skip_any {b : Nat} {S : Seq} {w : World} (h : SeqAt w b S) (ho : OkOrd S.ord) (h5 : 5 ≤ S.ph) (h8 : S.ph ≤ 8) (hp : S.po ≤ S.ord.length) :
    Calls Try.prog 76 #[.pointer (some ⟨b, 0, none⟩)] w fun e w' => e = .returned (.tuple #[]) ∧ SeqAt w' b S.skip ∧ Fr [b] w w' := by
  have h64 := ho.1
  go_enter Try.func76, Try.ntmps76
  go_wp2
  go_loopg [] (9 - S.ph) (fun k wr => SkipRel w b S k wr)
  case atStart => exact ⟨S.ph, S.po, h5, by omega, hp, h, Fr.refl _ _, rfl, rfl⟩
  case round =>
    obtain ⟨ph, po, g5, g9, gp, hat, hfr, heq, hn⟩ := hrel
    have HN := hide hn
    have HE := hide heq
    clear hn heq
    obtain ⟨A, cp, c0, c1, c2, c3, c4, hs, hf, hr, hoff⟩ := hat.cells
    by_cases g8 : ph ≤ 8
    · go_wp2
      go_loopg [] (S.ord.length - po) (fun k wi => ScanRel w b S ph po k wi)
      case atStart => exact ⟨po, gp, hat, hfr, rfl, rfl⟩
      case round =>
        obtain ⟨q, gq, hat2, hfr2, heq2, hn2⟩ := hrel
        have HN2 := hide hn2
        have HE2 := hide heq2
        clear hn2 heq2 hat hfr c0 c1 c2 c3 c4 hs hf hr hoff
        obtain ⟨A, cp, c0, c1, c2, c3, c4, hs, hf, hr, hoff⟩ := hat2.cells
        by_cases gl : q < S.ord.length
        · have hdl := devAt_lt ho (ph := ph) gl
          have hcell := hs ((9 - ph) * 64 + devAt S.ord ph q) (by omega)
          generalize hdd : devAt S.ord ph q = d at hdl hcell
          have HD := hide hdd
          clear hdd hs
          rw [← Nat.add_assoc] at hcell
          have i1 : (0 : Int) ≤ 9 - (ph : Int) := by omega
          have i4 : (ph : Int) ≤ 9 := by omega
          have i2 : 9 - (ph : Int) < 5 := by omega
          have i3 : (9 - (ph : Int)).toNat = 9 - ph := by omega
          have i5 : (d : Int) < 64 := by omega
          go_wp2
          go_quiet (fail)
          go_wp2
          go_quiet ((go_at_call 75; exact quiet_add (device_any (S := { S with ph := ph, po := q }) (hat2.fr0 ((Fr.refl _ _).drewN _)) ho gl HD.out)))
          go_wp2
          · have hx := scan_hit (sc := S.sc) (ph := ph) gl (by rw [HD.out]; assumption)
            have hsk : S.skip = { S with ph := ph, po := q } := by
              have h1 := HE.out
              have h2 := HE2.out
              rw [skipF_some g8 (h2.symm.trans hx)] at h1
              simp [Seq.skip, ← h1]
            refine bodyPost_ret (results_none rfl _ _ _) rfl ?_
            exact ⟨rfl, by rw [hsk]; exact (hat2.drewN _).drewN _, (hfr2.drewN _).drewN _⟩
          · have hx := scan_miss (sc := S.sc) (ph := ph) gl (by rw [HD.out]; assumption)
            go_roundg (S.ord.length - (q + 1))
            case measure => rw [HN2.out]; omega
            case rel =>
              exact ⟨q + 1, by omega, (hat2.po_ (q + 1)).fr0 ((Fr.refl _ _).drewN _), (hfr2.set (.inl (by simp)) _).drewN _, hx.symm.trans HE2.out, rfl⟩
        · have hx : scan S.ord S.sc ph (S.ord.length - po) po = none := by
            rw [← HE2.out, show S.ord.length - q = 0 by omega]; rfl
          have hx2 := hide (skipF_none g8 hx)
          clear hx
          go_wp2
          go_quiet (fail)
          go_wp2
          go_roundg (9 - (ph + 1))
          case measure => rw [HN.out]; omega
          case rel =>
            exact ⟨ph + 1, 0, by omega, by omega, by omega, (((hat2.drewN _).po_ 0).ph_ (ph + 1)), (((hfr2.drewN _).set (.inl (by simp)) _).set (.inl (by simp)) _), hx2.out.symm.trans HE.out, rfl⟩
    · have hb : (decide ((ph : Int) ≤ 8)) = false := by simp; omega
      go_wp2
      have h9 : ph = 9 := by omega
      have hsk : S.skip = { S with ph := ph, po := po, st := 4 } := by
        have h1 := HE.out
        rw [h9] at h1 ⊢
        simp [Seq.skip, ← h1, skipF]
      go_end0
      exact ⟨rfl, by rw [hsk]; exact hat.st_ 4, hfr.set (.inl (by simp)) _⟩
end Go.Proofs.Ytdocdgghphhdpaa

/- Walks over suspend's methods: undo, Complete, Abort, Wake, Asleep, Result, Next. -/
namespace Go.Proofs.Ytdocdgghphhdpaa
open Go.RowKit

set_option maxHeartbeats 400000 in
theorem undo_any {b : Nat} {S : Seq} {w : World} (r : Int) (h : SeqAt w b S) (ho : OkOrd S.ord) :
    Calls Try.prog 74 #[.pointer (some ⟨b, 0, none⟩), .int .i64 r] w fun e w' => e = .returned (.tuple #[]) ∧ SeqAt w' b (S.undo r) ∧ Fr [b] w w' := by
  obtain ⟨A, cp, c0, c1, c2, c3, c4, hs, hf, hr, hoff⟩ := h.cells
  have f1 := hf 1
  have f2 := hf 2
  have f3 := hf 3
  have f4 := hf 324
  clear hs hf
  go_enter Try.func74, Try.ntmps74
  go_wp2_with fail
  refine (skip_any (S := { S with st := 3, rs := r, ph := 5, po := 0 }) ((((h.st_ 3).rs_ r).ph_ 5).po_ 0) ho (by simp) (by simp) (by simp)).mono ?_
  rintro e w1 ⟨rfl, hat, hfr⟩
  go_wp2
  go_end0
  exact ⟨rfl, hat, (((((Fr.refl _ _).set (.inl (by simp)) _).set (.inl (by simp)) _).set (.inl (by simp)) _).set (.inl (by simp)) _).trans hfr⟩

set_option maxHeartbeats 400000 in
theorem complete_fail {b : Nat} {S : Seq} {w : World} (r : Int) (h : SeqAt w b S) (ho : OkOrd S.ord) (h1 : S.st = 1) (hr0 : r ≠ 0) :
    Calls Try.prog 36 #[.pointer (some ⟨b, 0, none⟩), .int .i64 r] w fun e w' => e = .returned (.int .i64 0) ∧ SeqAt w' b (S.undo r) ∧ Fr [b] w w' := by
  obtain ⟨A, cp, c0, c1, c2, c3, c4, hs, hf, hr, hoff⟩ := h.cells
  have hb : (r != 0) = true := by simpa using hr0
  rw [h1] at c1
  have H1 := hide h1
  clear hs hf h1 hr0 c0 c2 c3 c4
  go_enter Try.func36, Try.ntmps36
  go_wp2_with fail
  refine (undo_any r h ho).mono ?_
  rintro e w1 ⟨rfl, hat, hfr⟩
  go_wp2
  go_ret
  exact ⟨rfl, hat, hfr⟩

set_option maxHeartbeats 1000000 in
theorem complete_down {b : Nat} {S : Seq} {w : World} (h : SeqAt w b S) (ho : OkOrd S.ord) (h1 : S.st = 1) (g1 : 1 ≤ S.ph) (g4 : S.ph ≤ 4) (gp : S.po < S.ord.length) :
    Calls Try.prog 36 #[.pointer (some ⟨b, 0, none⟩), .int .i64 0] w fun e w' => e = .returned (.int .i64 0) ∧ SeqAt w' b S.down ∧ Fr [b] w w' := by
  obtain ⟨A, cp, c0, c1, c2, c3, c4, hs, hf, hr, hoff⟩ := h.cells
  have h64 := ho.1
  rw [h1] at c1
  have hdl := devAt_lt ho (ph := S.ph) gp
  have hcell := hs (S.ph * 64 + devAt S.ord S.ph S.po) (by omega)
  have hfz := hf (4 + (S.ph * 64 + devAt S.ord S.ph S.po))
  generalize hdd : devAt S.ord S.ph S.po = d at hdl hcell hfz
  have HD := hide hdd
  have H1 := hide h1
  rw [← Nat.add_assoc] at hcell hfz
  have i2 : (S.ph : Int) < 5 := by omega
  have i5 : (d : Int) < 64 := by omega
  clear hs hf h1 hdd
  go_enter Try.func36, Try.ntmps36
  go_wp2_with fail
  go_region_held3 (fun w' => w'.cell? ⟨b, 2, none⟩ = some (.int .i64 S.ph)) (first | go_keep | exact (World.cell?_setCell_other _ _ _ _ (by intro he; injection he with _ he; omega)).trans c2) (first | (go_at_call 75; refine (device_any (S := S) (h.drew) ho gp HD.out).mono ?_; rintro e w' ⟨rfl, k, rfl⟩))
  have hj : S.ph * 64 + d < 320 := by omega
  have hat1 : SeqAt ((w.drewN (1 + k)).setCell ⟨b, 4 + S.ph * 64 + d, none⟩ (.bool true)) b { S with sc := setF S.sc (S.ph * 64 + d) } := by
    rw [Nat.add_assoc 4]; exact (h.drewN _).sc_ hj
  have hfr1 : Fr [b] w ((w.drewN (1 + k)).setCell ⟨b, 4 + S.ph * 64 + d, none⟩ (.bool true)) := ((Fr.refl _ _).drewN _).set (.inl (by simp)) _
  generalize ((w.drewN (1 + k)).setCell ⟨b, 4 + S.ph * 64 + d, none⟩ (.bool true)) = w1 at hat1 hfr1 ⊢
  clear c0 c1 c2 c3 c4 hr hoff hcell hfz
  have hat2 := hat1.po_ (S.po + 1)
  have hfr2 := hfr1.set (p := ⟨b, 3, none⟩) (.inl (by simp)) (.int .i64 ((S.po + 1 : Nat) : Int))
  obtain ⟨A, cp, c0, c1, c2, c3, c4, hs, hf, hr, hoff⟩ := hat1.cells
  have f3 := hf 3
  clear hs hf c4
  go_upto_region 8 with (fail)
  rw [show ((S.po : Int) + 1) = ((S.po + 1 : Nat) : Int) by omega]
  generalize (w1.setCell ⟨b, 3, none⟩ (.int .i64 ((S.po + 1 : Nat) : Int))) = w2 at hat2 hfr2 ⊢
  clear c0 c1 c2 c3 hr hoff f3 hat1 hfr1
  have HD2 : Hid (S.dev = d) := HD.out
  by_cases hl : S.po + 1 = S.ord.length
  · have hb : (((S.po + 1 : Nat) : Int) == (S.ord.length : Int)) = true := by rw [beq_iff_eq]; omega
    have HL := hide hl
    clear hl
    have hat3 := ((hat2.drewN 0).po_ 0).ph_ (S.ph + 1)
    obtain ⟨A, cp, c0, c1, c2, c3, c4, hs, hf, hr, hoff⟩ := hat2.cells
    have f1 := hf 1
    have f2 := hf 2
    have f3 := hf 3
    dsimp only at c0 c1 c2 c3
    clear hs hf c4
    go_quiet (fail)
    by_cases h4 : S.ph = 4
    · have H4 := hide h4
      have g5 : decide ((4 : Int) < (S.ph : Int) + 1) = true := by simp; omega
      have g5' : (4 : Int) < (S.ph : Int) + 1 := by omega
      clear h4
      go_wp2
      go_ret
      refine ⟨rfl, ?_, (((hfr2.drewN _).set (.inl (by simp)) _).set (.inl (by simp)) _).set (.inl (by simp)) _⟩
      have e : S.down = { S with sc := setF S.sc (S.ph * 64 + d), po := 0, ph := S.ph + 1, st := 2 } := by
        simp [Seq.down, HL.out, H4.out, HD2.out]
      rw [e]
      exact (((hat2.drewN _).po_ 0).ph_ (S.ph + 1)).st_ 2
    · have g5 : decide ((4 : Int) < (S.ph : Int) + 1) = false := by simp; omega
      have g5' : ¬ (4 : Int) < (S.ph : Int) + 1 := by omega
      go_wp2
      go_ret
      refine ⟨rfl, ?_, ((hfr2.drewN _).set (.inl (by simp)) _).set (.inl (by simp)) _⟩
      have e : S.down = { S with sc := setF S.sc (S.ph * 64 + d), po := 0, ph := S.ph + 1 } := by
        have : ¬ 4 < S.ph + 1 := by omega
        simp [Seq.down, HL.out, HD2.out, this]
      rw [e]
      exact ((hat2.drewN _).po_ 0).ph_ (S.ph + 1)
  · have hb : (((S.po + 1 : Nat) : Int) == (S.ord.length : Int)) = false := by rw [beq_eq_false_iff_ne]; omega
    have HL := hide hl
    clear hl
    obtain ⟨A, cp, c0, c1, c2, c3, c4, hs, hf, hr, hoff⟩ := hat2.cells
    dsimp only at c0 c1 c2 c3
    clear hs hf c4
    go_quiet (fail)
    have g5' : ¬ (4 : Int) < (S.ph : Int) := by omega
    go_wp2
    go_ret
    refine ⟨rfl, ?_, hfr2.drewN _⟩
    have e : S.down = { S with sc := setF S.sc (S.ph * 64 + d), po := S.po + 1 } := by
      have : ¬ 4 < S.ph := by omega
      simp [Seq.down, HL.out, HD2.out, this]
    rw [e]
    exact hat2.drewN _
end Go.Proofs.Ytdocdgghphhdpaa

