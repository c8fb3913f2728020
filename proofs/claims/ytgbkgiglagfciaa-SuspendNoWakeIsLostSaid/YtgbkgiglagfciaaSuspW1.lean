/- Walks over suspend's inner methods: device, skip. -/
import Derived.Test.YtgbkgiglagfciaaProg
import Derived.Test.YtgbkgiglagfciaaSuspM
import Derived.Deep.QuietTactic
import Derived.BigQuiet
import Derived.Lib.Hide
import Derived.Deep.LoopGhost
namespace Go.Proofs.Ytgbkgiglagfciaa
open Go.RowKit

set_option maxHeartbeats 400000 in
theorem device_fwd (b ob oo cp n : Nat) (ph po d : Int) (w : World)
    (h0 : w.cell? ⟨b, 0, none⟩ = some (.slice (some ⟨ob, oo, none⟩) n cp)) (h2 : w.cell? ⟨b, 2, none⟩ = some (.int .i64 ph)) (h3 : w.cell? ⟨b, 3, none⟩ = some (.int .i64 po))
    (hn : (n : Int) ≤ 64) (hp0 : 0 ≤ po) (hpn : po < n) (hd : w.cell? ⟨ob, oo + po.toNat, none⟩ = some (.int .i64 d))
    (e2 : (ph == 2) = false) (e3 : (ph == 3) = false) (e4 : (ph == 4) = false) (e8 : (ph == 8) = false) :
    Calls Try.prog 46 #[.pointer (some ⟨b, 0, none⟩)] w fun e w' => e = .returned (.int .i64 d) ∧ ∃ k, w' = w.drewN k := by
  go_enter Try.func46, Try.ntmps46
  go_wp2
  go_quiet (fail)
  go_wp2
  go_ret
  exact ⟨rfl, _, rfl⟩
set_option maxHeartbeats 400000 in
theorem device_bwd (b ob oo cp n : Nat) (ph po d : Int) (w : World)
    (h0 : w.cell? ⟨b, 0, none⟩ = some (.slice (some ⟨ob, oo, none⟩) n cp)) (h2 : w.cell? ⟨b, 2, none⟩ = some (.int .i64 ph)) (h3 : w.cell? ⟨b, 3, none⟩ = some (.int .i64 po))
    (hn : (n : Int) ≤ 64) (hp0 : 0 ≤ po) (hpn : po < n) (hd : w.cell? ⟨ob, oo + ((n : Int) - 1 - po).toNat, none⟩ = some (.int .i64 d))
    (hph : ph = 2 ∨ ph = 3 ∨ ph = 4 ∨ ph = 8) :
    Calls Try.prog 46 #[.pointer (some ⟨b, 0, none⟩)] w fun e w' => e = .returned (.int .i64 d) ∧ ∃ k, w' = w.drewN k := by
  rcases hph with rfl | rfl | rfl | rfl
  all_goals
    go_enter Try.func46, Try.ntmps46
    go_wp2
    go_quiet (fail)
    go_wp2
    go_ret
    exact ⟨rfl, _, rfl⟩

theorem device_any {b : Nat} {S : Seq} {w : World} {d : Nat} (h : SeqAt w b S) (ho : OkOrd S.ord) (hp : S.po < S.ord.length) (hdd : S.dev = d) :
    Calls Try.prog 46 #[.pointer (some ⟨b, 0, none⟩)] w fun e w' => e = .returned (.int .i64 d) ∧ ∃ k, w' = w.drewN k := by
  subst hdd
  obtain ⟨A, cp, h0, h1, h2, h3, h4, hs, hf, hr, hoff⟩ := h.cells
  have h64 := ho.1
  have hget : ∀ k, k < S.ord.length → (S.ord.map nv)[k]? = some (.int .i64 ((S.ord.getD k 0 : Nat) : Int)) := fun k hk => by
    simp [List.getD_eq_getElem?_getD, List.getElem?_eq_getElem hk, nv]
  cases hrev : rev S.ph
  · obtain ⟨ob, oo, rfl, hc⟩ := hr.at_ (hget S.po hp)
    have hd : S.dev = S.ord.getD S.po 0 := by simp [Seq.dev, devAt, hrev]
    simp only [rev, Bool.or_eq_false_iff, beq_eq_false_iff_ne] at hrev
    rw [hd]
    exact device_fwd b ob oo cp _ _ _ _ w h0 h2 h3 (by omega) (by omega) (by omega) (by simpa using hc) (beq_eq_false_iff_ne.2 (by omega)) (beq_eq_false_iff_ne.2 (by omega)) (beq_eq_false_iff_ne.2 (by omega)) (beq_eq_false_iff_ne.2 (by omega))
  · obtain ⟨ob, oo, rfl, hc⟩ := hr.at_ (hget (S.ord.length - 1 - S.po) (by omega))
    have hd : S.dev = S.ord.getD (S.ord.length - 1 - S.po) 0 := by simp [Seq.dev, devAt, hrev]
    simp only [rev, Bool.or_eq_true, beq_iff_eq] at hrev
    rw [hd]
    exact device_bwd b ob oo cp _ _ _ _ w h0 h2 h3 (by omega) (by omega) (by omega) (by rw [show ((S.ord.length : Int) - 1 - (S.po : Int)).toNat = S.ord.length - 1 - S.po by omega]; exact hc) (by omega)

def SkipRel (w : World) (b : Nat) (S : Seq) (n : Nat) (wr : World) : Prop :=
  ∃ ph po : Nat, 5 ≤ ph ∧ ph ≤ 9 ∧ po ≤ S.ord.length ∧ SeqAt wr b { S with ph := ph, po := po } ∧ Fr [b] w wr ∧
    skipF S.ord S.sc (9 - ph) ph po = skipF S.ord S.sc (9 - S.ph) S.ph S.po ∧ n = 9 - ph
def ScanRel (w : World) (b : Nat) (S : Seq) (ph po : Nat) (n : Nat) (wr : World) : Prop :=
  ∃ q : Nat, q ≤ S.ord.length ∧ SeqAt wr b { S with ph := ph, po := q } ∧ Fr [b] w wr ∧
    scan S.ord S.sc ph (S.ord.length - q) q = scan S.ord S.sc ph (S.ord.length - po) po ∧ n = S.ord.length - q

set_option maxHeartbeats 1000000 in
theorem skip_any {b : Nat} {S : Seq} {w : World} (h : SeqAt w b S) (ho : OkOrd S.ord) (h5 : 5 ≤ S.ph) (h8 : S.ph ≤ 8) (hp : S.po ≤ S.ord.length) :
    Calls Try.prog 47 #[.pointer (some ⟨b, 0, none⟩)] w fun e w' => e = .returned (.tuple #[]) ∧ SeqAt w' b S.skip ∧ Fr [b] w w' := by
  have h64 := ho.1
  go_enter Try.func47, Try.ntmps47
  go_wp2
  go_loopg [] (9 - S.ph) (fun k wr => SkipRel w b S k wr)
  case atStart => exact ⟨S.ph, S.po, h5, by omega, hp, h, Fr.refl _ _, rfl, rfl⟩
  case round =>
    obtain ⟨ph, po, g5, g9, gp, hat, hfr, heq, hn⟩ := hrel
    have HN := hide hn
    have HE := hide heq
    clear hn heq
    obtain ⟨A, cp, c0, c1, c2, c3, c4, hs, hf, hr, hoff⟩ := hat.cells
    by_cases g8 : ph ≤ 8
    · go_wp2
      go_loopg [] (S.ord.length - po) (fun k wi => ScanRel w b S ph po k wi)
      case atStart => exact ⟨po, gp, hat, hfr, rfl, rfl⟩
      case round =>
        obtain ⟨q, gq, hat2, hfr2, heq2, hn2⟩ := hrel
        have HN2 := hide hn2
        have HE2 := hide heq2
        clear hn2 heq2 hat hfr c0 c1 c2 c3 c4 hs hf hr hoff
        obtain ⟨A, cp, c0, c1, c2, c3, c4, hs, hf, hr, hoff⟩ := hat2.cells
        by_cases gl : q < S.ord.length
        · have hdl := devAt_lt ho (ph := ph) gl
          have hcell := hs ((9 - ph) * 64 + devAt S.ord ph q) (by omega)
          generalize hdd : devAt S.ord ph q = d at hdl hcell
          have HD := hide hdd
          clear hdd hs
          rw [← Nat.add_assoc] at hcell
          have i1 : (0 : Int) ≤ 9 - (ph : Int) := by omega
          have i4 : (ph : Int) ≤ 9 := by omega
          have i2 : 9 - (ph : Int) < 5 := by omega
          have i3 : (9 - (ph : Int)).toNat = 9 - ph := by omega
          have i5 : (d : Int) < 64 := by omega
          go_wp2
          go_quiet (fail)
          go_wp2
          go_quiet ((go_at_call 46; exact quiet_add (device_any (S := { S with ph := ph, po := q }) (hat2.fr0 ((Fr.refl _ _).drewN _)) ho gl HD.out)))
          go_wp2
          · have hx := scan_hit (sc := S.sc) (ph := ph) gl (by rw [HD.out]; assumption)
            have hsk : S.skip = { S with ph := ph, po := q } := by
              have h1 := HE.out
              have h2 := HE2.out
              rw [skipF_some g8 (h2.symm.trans hx)] at h1
              simp [Seq.skip, ← h1]
            refine bodyPost_ret (results_none rfl _ _ _) rfl ?_
            exact ⟨rfl, by rw [hsk]; exact (hat2.drewN _).drewN _, (hfr2.drewN _).drewN _⟩
          · have hx := scan_miss (sc := S.sc) (ph := ph) gl (by rw [HD.out]; assumption)
            go_roundg (S.ord.length - (q + 1))
            case measure => rw [HN2.out]; omega
            case rel =>
              exact ⟨q + 1, by omega, (hat2.po_ (q + 1)).fr0 ((Fr.refl _ _).drewN _), (hfr2.set (.inl (by simp)) _).drewN _, hx.symm.trans HE2.out, rfl⟩
        · have hx : scan S.ord S.sc ph (S.ord.length - po) po = none := by
            rw [← HE2.out, show S.ord.length - q = 0 by omega]; rfl
          have hx2 := hide (skipF_none g8 hx)
          clear hx
          go_wp2
          go_quiet (fail)
          go_wp2
          go_roundg (9 - (ph + 1))
          case measure => rw [HN.out]; omega
          case rel =>
            exact ⟨ph + 1, 0, by omega, by omega, by omega, (((hat2.drewN _).po_ 0).ph_ (ph + 1)), (((hfr2.drewN _).set (.inl (by simp)) _).set (.inl (by simp)) _), hx2.out.symm.trans HE.out, rfl⟩
    · have hb : (decide ((ph : Int) ≤ 8)) = false := by simp; omega
      go_wp2
      have h9 : ph = 9 := by omega
      have hsk : S.skip = { S with ph := ph, po := po, st := 4 } := by
        have h1 := HE.out
        rw [h9] at h1 ⊢
        simp [Seq.skip, ← h1, skipF]
      go_end0
      exact ⟨rfl, by rw [hsk]; exact hat.st_ 4, hfr.set (.inl (by simp)) _⟩
end Go.Proofs.Ytgbkgiglagfciaa
