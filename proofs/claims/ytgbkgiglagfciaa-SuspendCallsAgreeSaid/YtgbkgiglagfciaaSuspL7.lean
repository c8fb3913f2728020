/- The law SuspendCallsAgree, walked: a sequence and the reference's sequence, side by side. -/
import Derived.Test.YtgbkgiglagfciaaSuspL6
namespace Go.Proofs.Ytgbkgiglagfciaa
open Go.RowKit

/-- Both sequences in one memory: what the reference writes lies from S.lim on. -/
def Pair (w : World) (a b : Nat) (S : Seq) (R : RSeq) (wr : World) : Prop :=
  ∃ F, S.lim ≠ 0 ∧ w.heap.size ≤ a ∧ a < S.lim ∧ S.lim ≤ wr.heap.size ∧ SeqAt wr a S ∧ RefAt wr b F R ∧ (∀ g, g ∈ F → S.lim ≤ g) ∧ Fr [] w wr
section
variable {w wr wr' : World} {a b : Nat} {S S' : Seq} {R R' : RSeq}
theorem Pair.fr0 (h : Pair w a b S R wr) (k : Fr [] wr wr') : Pair w a b S R wr' := by
  obtain ⟨F, h0, h1, h2, h3, h4, h5, h6, h7⟩ := h
  exact ⟨F, h0, h1, h2, Nat.le_trans h3 k.size, h4.fr0 k, h5.fr0 k, h6, h7.call k⟩
theorem Pair.fw (h : Pair w a b S R wr) : Fr [] w wr := by
  obtain ⟨F, h0, h1, h2, h3, h4, h5, h6, h7⟩ := h
  exact h7
theorem Pair.a_ (h : Pair w a b S R wr) (k : Fr [a] wr wr') (hs : SeqAt wr' a S') (hl : S'.lim = S.lim) : Pair w a b S' R wr' := by
  obtain ⟨F, h0, h1, h2, h3, h4, h5, h6, h7⟩ := h
  refine ⟨F, by rw [hl]; exact h0, h1, by rw [hl]; exact h2, by rw [hl]; exact Nat.le_trans h3 k.size, hs, h5.fr k (fun g hg hm => ?_), by rw [hl]; exact h6, h7.call' k h1⟩
  have := h6 g hg
  have e : g = a := by simpa using hm
  omega
theorem Pair.at_ (h : Pair w a b S R wr) : SeqAt wr a S := by
  obtain ⟨F, h0, h1, h2, h3, h4, h5, h6, h7⟩ := h
  exact h4
theorem Pair.b_ {v : Value} (h : Pair w a b S R wr) {f : FuncId} {args : Array Value} {P : Program} (hc : ∀ F, RefAt wr b F R → Calls P f args wr (RefRet wr b F R' v)) :
    Calls P f args wr fun e w' => e = .returned v ∧ Pair w a b S R' w' := by
  obtain ⟨F, h0, h1, h2, h3, h4, h5, h6, h7⟩ := h
  refine (hc F h5).mono ?_
  rintro e w' ⟨he, F', k1, k2, k3⟩
  refine ⟨he, F', h0, h1, h2, Nat.le_trans h3 k2.size, h4.frL k2 (fun hm => ?_) h0 h6, k1, fun g hg => ?_, h7.step k2 (fun i hi => .inr ?_)⟩
  · have := h6 a hm; omega
  · rcases k3 g hg with h' | h'
    · exact h6 g h'
    · omega
  · have := h6 i hi; omega
theorem Pair.bq {v : Value} (h : Pair w a b S R wr) {f : FuncId} {args : Array Value} {P : Program} (hc : ∀ F, RefAt wr b F R → Calls P f args wr fun e w' => e = .returned v ∧ wr = w') :
    Calls P f args wr fun e w' => e = .returned v ∧ wr = w' := by
  obtain ⟨F, h0, h1, h2, h3, h4, h5, h6, h7⟩ := h
  exact hc F h5
theorem Pair.bn {v : Value} (h : Pair w a b S R wr) {f : FuncId} {args : Array Value} {P : Program} (hc : ∀ F, RefAt wr b F R → Calls P f args wr fun e w' => e = .returned v ∧ Fr [] wr w') :
    Calls P f args wr fun e w' => e = .returned v ∧ Fr [] wr w' := by
  obtain ⟨F, h0, h1, h2, h3, h4, h5, h6, h7⟩ := h
  exact hc F h5
theorem Seq.skip_lim (S : Seq) : S.skip.lim = S.lim := rfl
theorem Seq.complete_lim (S : Seq) (r : Int) : (S.complete r).1.lim = S.lim := by
  unfold Seq.complete
  split
  · split <;> rfl
  · split <;> rfl
theorem Seq.abort_lim (S : Seq) : S.abort.1.lim = S.lim := by
  unfold Seq.abort
  split <;> rfl
theorem Seq.wake_lim (S : Seq) : S.wake.1.lim = S.lim := by
  unfold Seq.wake
  split <;> rfl
theorem Seq.abort_ord (S : Seq) : S.abort.1.ord = S.ord := by
  unfold Seq.abort
  split <;> rfl
theorem pcomplete (h : Pair w a b S R wr) (ok : S.Ok) (r : Int) :
    Calls Try.prog 20 #[.pointer (some ⟨a, 0, none⟩), .int .i64 r] wr fun e w' => e = .returned (.int .i64 (S.complete r).2) ∧ Pair w a b (S.complete r).1 R w' :=
  (complete_any r h.at_ ok).mono fun _ _ ⟨he, hs, hf⟩ => ⟨he, h.a_ hf hs (Seq.complete_lim S r)⟩
theorem pabort (h : Pair w a b S R wr) (ok : S.Ok) :
    Calls Try.prog 25 #[.pointer (some ⟨a, 0, none⟩)] wr fun e w' => e = .returned (.int .i64 S.abort.2) ∧ Pair w a b S.abort.1 R w' :=
  (abort_any h.at_ ok.ord).mono fun _ _ ⟨he, hs, hf⟩ => ⟨he, h.a_ hf hs (Seq.abort_lim S)⟩
theorem pwake (h : Pair w a b S R wr) (ok : S.Ok) :
    Calls Try.prog 22 #[.pointer (some ⟨a, 0, none⟩)] wr fun e w' => e = .returned (.int .i64 S.wake.2) ∧ Pair w a b S.wake.1 R w' :=
  (wake_any h.at_ ok.ord).mono fun _ _ ⟨he, hs, hf⟩ => ⟨he, h.a_ hf hs (Seq.wake_lim S)⟩
end
/-- What holds at the head of each round. -/
def CallsRel (w : World) (a b : Nat) (o : List Nat) (n : Nat) (m : Nat) (i : Value) (wr : World) : Prop :=
  ∃ (k : Nat) (S : Seq) (R : RSeq), k ≤ n ∧ i = .int .i64 k ∧ Pair w a b S R wr ∧ Sim S R ∧ S.ord = o ∧ m = n - k
/-- Where the ways of the switch meet. -/
def MeetRel (w : World) (a b : Nat) (o : List Nat) (p q : Value) (wr : World) : Prop :=
  ∃ (S : Seq) (R : RSeq) (x : Int), p = .int .i64 x ∧ q = .int .i64 x ∧ Pair w a b S R wr ∧ Sim S R ∧ S.ord = o

theorem Sim.lens {S : Seq} {R : RSeq} (h : Sim S R) (hn : S.ord.length ≤ 64) : R.ord.length ≤ 64 ∧ R.good.length ≤ 256 := by
  have := h.glen
  rw [h.ord]
  omega
theorem Sim.lim_ {S : Seq} {R : RSeq} (h : Sim S R) (n : Nat) : Sim { S with lim := n } R :=
  ⟨⟨h.ok.ord, h.ok.st, h.ok.down, h.ok.up⟩, h.hit, h.ord, h.plan, h.down, h.sleeps, h.done, h.code, h.good, h.nodup, h.part, h.glen⟩
theorem Sim.asleep {S : Seq} {R : RSeq} (h : Sim S R) : R.sleeps = S.asleep := by
  rw [h.sleeps]
  unfold Seq.asleep
  by_cases e : S.st = 2 <;> simp [e]

set_option maxHeartbeats 4000000 in
set_option maxRecDepth 100000 in
theorem callsAgree_walk (A B : Option Addr) (cp cq : Nat) (raw ks : List Int) (code : Int) (w : World) (hr : Row w A (raw.map (Value.int .i64))) (hs : Row w B (ks.map (Value.int .i64))) (hm : raw.length ≤ maxLen) (hm2 : ks.length ≤ maxLen) :
    Calls Try.prog 7 #[.slice A raw.length cp, .slice B ks.length cq, .int .i64 code] w fun e w' => e = .returned (.bool true) ∧ Fr [] w w' := by
  unfold maxLen at hm hm2
  have HR := hide hr
  have HS := hide hs
  clear hr hs
  by_cases h20 : 20 < raw.length ∨ 90 < ks.length
  · have hb : (decide ((20 : Int) < (raw.length : Int)) = true) ∨ (decide ((20 : Int) < (raw.length : Int)) = false ∧ decide ((90 : Int) < (ks.length : Int)) = true) := by simp; omega
    clear h20
    rcases hb with hb | ⟨hb, hb2⟩
    all_goals
      go_enter Try.func7, Try.ntmps7
      go_wp2_with fail
      refine (awake30_any w).mono ?_
      rintro e w1 ⟨rfl, hfr⟩
      go_wp2
      go_ret
      exact ⟨rfl, hfr⟩
  · have hb : decide ((20 : Int) < (raw.length : Int)) = false := by simp; omega
    have hb2 : decide ((90 : Int) < (ks.length : Int)) = false := by simp; omega
    have h90 : ks.length ≤ 90 := by omega
    have h20' : raw.length ≤ 20 := by omega
    clear h20 hm hm2
    go_enter Try.func7, Try.ntmps7
    go_wp2_with fail
    refine (order_any A cp raw w HR.out (by omega)).mono ?_
    rintro e w1 ⟨v1, rfl, hown1, hfr1⟩
    obtain ⟨A1, c1, rfl, hA1, hrow1, -⟩ := own_slice hown1
    have HA1 := hide hA1
    have HR1 := hide hrow1
    have hlen := ordR_length raw
    have HOK := hide (ordR_ok raw)
    have HN := hide (ordR_nodup raw)
    have HO := hide (ordR_okOrd raw)
    generalize ordR raw = o at hlen HOK HR1 HN HO ⊢
    have h7 : o.length ≤ 7 := by omega
    clear hlen hA1 hrow1 hown1 hb hb2
    go_wp2_with fail
    rw [show o.length = (toInts o).length by simp [toInts]]
    refine (new_any A1 c1 (toInts o) w1 (by rw [toInts_nv]; exact HR1.out) HA1.out (by simp [toInts]; omega)).mono ?_
    rintro e w2 (⟨hno, rfl, hfr⟩ | ⟨_, a, rfl, hag, hat, hfr2⟩)
    · exact absurd (okB_iff.1 HOK.out) hno
    have hat' := hat.lim_
    rw [toInts_toNat] at hat'
    have haw : w.heap.size ≤ a := Nat.le_trans hfr1.size hag
    have halt := hat.lt
    have hf2 : Fr [] w w2 := hfr1.call hfr2
    have HAT := hide hat'
    have HR2 := hide (HR1.out.fr0 hfr2)
    clear hat hat' hfr1 hfr2 HR1 hag
    go_wp2_with fail
    refine (rnew_any A1 c1 (toInts o) w2 (by rw [toInts_nv]; exact HR2.out) (by simp [toInts]; omega)).mono ?_
    rintro e w3 (⟨hno, rfl, hfr⟩ | ⟨_, b, F, rfl, hF, href, hfr3⟩)
    · rw [HOK.out] at hno; cases hno
    rw [toInts_toNat] at href
    have hsz : 0 < w2.heap.size := by omega
    have hpair : Pair w a b { ord := o, st := if o.length = 0 then 2 else 1, ph := 1, po := 0, sc := fun _ => false, rs := 0, lim := w2.heap.size } (rseq0 o) w3 := by
      refine ⟨F, (show w2.heap.size ≠ 0 by omega), haw, halt, hfr3.size, ?_, href, hF, hf2.call hfr3⟩
      have := HAT.out.fr0 hfr3
      simpa [toInts] using this
    have hsim := (sim_init HO.out).lim_ w2.heap.size
    unfold seq0 at hsim
    have HP := hide hpair
    have HSI := hide hsim
    clear hpair hsim href hfr3 HAT HR2 hF hf2 hsz haw halt
    go_wp2_with fail
    go_loopg [12] ks.length (fun m i wr => CallsRel w a b o ks.length m i wr)
    case atStart => exact ⟨0, _, _, by omega, rfl, HP.out, HSI.out, rfl, rfl⟩
    case round =>
      clear HP HSI
      obtain ⟨k, S, R, hk, rfl, hpair, hsim, hord, hmm⟩ := hrel
      have HP := hide hpair
      have HSI := hide hsim
      have HOR := hide hord
      have HM := hide hmm
      clear hpair hsim hord hmm
      by_cases hlt : k < ks.length
      · have hget : (ks.map (Value.int .i64))[k]? = some (.int .i64 (ks.getD k 0)) := by simp [hlt, List.getD_eq_getElem?_getD]
        obtain ⟨ob, oo, rfl, hc0⟩ := (HS.out.fr0 HP.out.fw).at_ hget
        generalize ks.getD k 0 = x at hc0
        clear hget
        go_wp2_with fail
        refine (mod_any x 8 _ (by omega) (by omega)).mono ?_
        rintro e w4 ⟨rfl, rfl⟩
        have hc8 := umod_lt x (show 0 < 8 by omega)
        generalize umod x 8 = c at hc8 ⊢
        have hcs : c = 4 ∨ (c = 5 ∧ (x.tmod 3 == 0) = true) ∨ (c = 5 ∧ (x.tmod 3 == 0) = false) ∨ c = 6 ∨ c = 7 ∨ (((c : Int) == 4) = false ∧ ((c : Int) == 5) = false ∧ ((c : Int) == 6) = false ∧ ((c : Int) == 7) = false) := by
          by_cases h4 : c = 4
          · exact .inl h4
          by_cases h5 : c = 5
          · cases ht : (x.tmod 3 == 0)
            · exact .inr (.inr (.inl ⟨h5, rfl⟩))
            · exact .inr (.inl ⟨h5, rfl⟩)
          by_cases h6 : c = 6
          · exact .inr (.inr (.inr (.inl h6)))
          by_cases h7 : c = 7
          · exact .inr (.inr (.inr (.inr (.inl h7))))
          · exact .inr (.inr (.inr (.inr (.inr ⟨beq_eq_false_iff_ne.2 (by omega), beq_eq_false_iff_ne.2 (by omega), beq_eq_false_iff_ne.2 (by omega), beq_eq_false_iff_ne.2 (by omega)⟩))))
        clear hc8
        rcases hcs with rfl | ⟨rfl, h3⟩ | ⟨rfl, h3⟩ | rfl | rfl | ⟨g4, g5, g6, g7⟩
        case' inl =>
          go_wp2_with fail
          refine (pcomplete HP.out HSI.out.ok code).mono ?_
          rintro e w5 ⟨rfl, hp5⟩
          have hl := HSI.out.lens (by rw [HOR.out]; omega)
          have HP5 := hide hp5
          clear hp5
          go_wp2_with fail
          refine (HP5.out.b_ (R' := (R.complete code).1) (fun F hF => rcomplete_any code hF hl.1 hl.2)).mono ?_
          rintro e w6 ⟨rfl, hp6⟩
          obtain ⟨hs6, heq⟩ := sim_complete HSI.out (by rw [HOR.out]; exact HN.out) code
          rw [heq]
          have ho6 := (Seq.complete_ord S code).trans HOR.out
          clear heq HP5 HP HSI HOR hl hc0
          generalize (S.complete code).1 = S6 at hp6 hs6 ho6
          generalize (R.complete code).1 = R6 at hp6 hs6
          generalize (S.complete code).2 = p
        case' inr.inl =>
          go_wp2_with fail
          refine (pabort HP.out HSI.out.ok).mono ?_
          rintro e w5 ⟨rfl, hp5⟩
          have hl := HSI.out.lens (by rw [HOR.out]; omega)
          have HP5 := hide hp5
          clear hp5
          go_wp2_with fail
          refine (HP5.out.b_ (R' := R.abort.1) (fun F hF => rabort_any hF hl.1 hl.2)).mono ?_
          rintro e w6 ⟨rfl, hp6⟩
          obtain ⟨hs6, heq⟩ := sim_abort HSI.out
          rw [heq]
          have ho6 : S.abort.1.ord = o := (Seq.abort_ord S).trans HOR.out
          clear heq HP5 HP HSI HOR hl hc0
          generalize S.abort.1 = S6 at hp6 hs6 ho6
          generalize R.abort.1 = R6 at hp6 hs6
          generalize S.abort.2 = p
        case' inr.inr.inl =>
          go_wp2_with fail
          obtain ⟨p, hp0⟩ : ∃ p : Int, p = 0 := ⟨_, rfl⟩
          obtain ⟨S6, R6, hp6, hs6, ho6⟩ : ∃ S6 R6, Pair w a b S6 R6 _ ∧ Sim S6 R6 ∧ S6.ord = o := ⟨S, R, HP.out, HSI.out, HOR.out⟩
          clear HP HSI HOR hc0
        case' inr.inr.inr.inl =>
          go_wp2_with fail
          refine (pwake HP.out HSI.out.ok).mono ?_
          rintro e w5 ⟨rfl, hp5⟩
          have hl := HSI.out.lens (by rw [HOR.out]; omega)
          have HP5 := hide hp5
          clear hp5
          go_wp2_with fail
          refine (HP5.out.b_ (R' := R.wake.1) (fun F hF => rwake_any hF hl.1 hl.2)).mono ?_
          rintro e w6 ⟨rfl, hp6⟩
          obtain ⟨hs6, heq⟩ := sim_wake HSI.out
          rw [heq]
          have ho6 : S.wake.1.ord = o := wake_ord.trans HOR.out
          clear heq HP5 HP HSI HOR hl hc0
          generalize S.wake.1 = S6 at hp6 hs6 ho6
          generalize R.wake.1 = R6 at hp6 hs6
          generalize S.wake.2 = p
        case' inr.inr.inr.inr.inl =>
          go_wp2_with fail
          refine (next_any HP.out.at_ HSI.out.ok).mono ?_
          rintro e w6 ⟨rfl, hf6⟩
          obtain ⟨p, hp0⟩ : ∃ p : Int, p = 0 := ⟨_, rfl⟩
          obtain ⟨S6, R6, hp6, hs6, ho6⟩ : ∃ S6 R6, Pair w a b S6 R6 _ ∧ Sim S6 R6 ∧ S6.ord = o := ⟨S, R, HP.out.fr0 hf6, HSI.out, HOR.out⟩
          clear HP HSI HOR hc0 hf6
        case' inr.inr.inr.inr.inr =>
          go_wp2_with fail
          refine (pcomplete HP.out HSI.out.ok 0).mono ?_
          rintro e w5 ⟨rfl, hp5⟩
          have hl := HSI.out.lens (by rw [HOR.out]; omega)
          have HP5 := hide hp5
          clear hp5
          go_wp2_with fail
          refine (HP5.out.b_ (R' := (R.complete 0).1) (fun F hF => rcomplete_any 0 hF hl.1 hl.2)).mono ?_
          rintro e w6 ⟨rfl, hp6⟩
          obtain ⟨hs6, heq⟩ := sim_complete HSI.out (by rw [HOR.out]; exact HN.out) 0
          rw [heq]
          have ho6 := (Seq.complete_ord S 0).trans HOR.out
          clear heq HP5 HP HSI HOR hl hc0
          generalize (S.complete 0).1 = S6 at hp6 hs6 ho6
          generalize (R.complete 0).1 = R6 at hp6 hs6
          generalize (S.complete 0).2 = p
        all_goals
          have HP := hide hp6
          have HSI := hide hs6
          have HOR := hide ho6
          clear hp6 hs6 ho6
          have hpp : (p != p) = false := by simp
          try clear hp0
          go_wp2_with fail
          refine (next_any HP.out.at_ HSI.out.ok).mono ?_
          rintro e w7 ⟨rfl, hf7⟩
          have HNX := hide (sim_next HSI.out)
          have HRS := hide (sim_result HSI.out)
          have HAS := hide HSI.out.asleep
          have HP7 := hide ((HP.out.fr0 hf7).fr0 ((Fr.refl [] w7).alloc (.cells #[nv S6.next.1.1, nv S6.next.1.2] 30)))
          clear hf7 HP
          go_wp2_with fail
          refine (HP7.out.bn (fun F hF => rnext_any hF)).mono ?_
          rintro e w8 ⟨rfl, hf8⟩
          rw [HNX.out]
          generalize S6.next = nx at HP7 hf8 ⊢
          have hbx := (Blk.new w7 30 #[nv nx.1.1, nv nx.1.2]).fr hf8 (by simp)
          have hx0 := hbx.cell 0
          have hx1 := hbx.cell 1
          simp at hx0 hx1
          have hlt8 := hbx.lt
          have HP8 := hide ((HP7.out.fr0 hf8).fr0 ((Fr.refl [] w8).alloc (.cells #[nv nx.1.1, nv nx.1.2] 30)))
          clear hf8 HP7 hbx HNX
          go_wp2_with fail
          refine (result_any HP8.out.at_).mono ?_
          rintro e w9 ⟨rfl, rfl⟩
          go_wp2_with fail
          refine (HP8.out.bq (fun F hF => rresult_any hF)).mono ?_
          rintro e w9 ⟨rfl, rfl⟩
          rw [HRS.out]
          generalize S6.result = rs
          have e1 : (rs.1 != rs.1) = false := by simp
          have e2 : (rs.2 != rs.2) = false := by simp
          have e3 : (nx.2 != nx.2) = false := by simp
          have e4 : ((nx.1.1 : Int) == (nx.1.1 : Int)) = true := by simp
          have e5 : ((nx.1.2 : Int) == (nx.1.2 : Int)) = true := by simp
          go_wp2_with fail
          refine (asleep_any HP8.out.at_).mono ?_
          rintro e w9 ⟨rfl, rfl⟩
          go_wp2_with fail
          refine (HP8.out.bq (fun F hF => rasleep_any hF)).mono ?_
          rintro e w9 ⟨rfl, rfl⟩
          rw [HAS.out]
          generalize S6.asleep = az
          have e6 : (az != az) = false := by simp
          go_wp2
          go_roundg (ks.length - (k + 1))
          case measure => rw [HM.out]; omega
          case rel => exact ⟨k + 1, S6, R6, by omega, by go_num, HP8.out, HSI.out, HOR.out, rfl⟩
      · have hkb : decide ((k : Int) < (ks.length : Int)) = false := by simp; omega
        go_wp2_with fail
        refine (awake30_any _).mono ?_
        rintro e w12 ⟨rfl, hfr12⟩
        go_wp2
        go_ret
        exact ⟨rfl, HP.out.fw.call hfr12⟩
end Go.Proofs.Ytgbkgiglagfciaa
