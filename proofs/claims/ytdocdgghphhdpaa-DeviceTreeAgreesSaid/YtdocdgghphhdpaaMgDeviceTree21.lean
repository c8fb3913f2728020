/- The program's tree and the reference's, of the same rails and devices; what each leaves alone. -/
import Derived.Test.YtdocdgghphhdpaaMgDeviceTree18
import Derived.Test.YtdocdgghphhdpaaMgDeviceTree20
import Derived.Test.YtdocdgghphhdpaaMgDeviceTree19
import Derived.Test.YtdocdgghphhdpaaMgDeviceTree5
namespace Go.Proofs.Ytdocdgghphhdpaa
open Go.RowKit

/-- S meets no block of the reference's tree. -/
structure TqOff (T : TP) (ds : List DV) (S : List Nat) : Prop where
  wr : ∀ g ∈ T.wr, g ∉ S
  A : ∀ ad, T.A = some ad → ad.block ∉ S
  R : ∀ x ∈ ds, ∀ q, q < 4 → ∀ g, (x.d.rf q).ownBlock = some g → g ∉ S
  pA : ∀ ad, T.pr.A = some ad → ad.block ∉ S
theorem TqAt.frOff {w w' : World} {T : TP} {ds : List DV} {C : TC} {s : TSt} {S : List Nat} (h : TqAt w T ds C s) (o : TqOff T ds S) (k : Fr S w w') : TqAt w' T ds C s where
  blk := h.blk.fr k (o.wr _ (by simp [TP.wr]))
  dv := h.dv.frOff k o.A o.R
  len := h.len
  tie := h.tie
  sS := fun hn => ⟨(h.sS hn).1, (h.sS hn).2.fr k (o.wr _ (by simp [TP.wr]))⟩
  rl := h.rl.fr k (fun g hg => ⟨fun e => o.wr T.pr.b (by simp [TP.wr]) (e ▸ hg), fun e => o.wr T.pr.gB (by simp [TP.wr]) (e ▸ hg), fun e => o.wr T.pr.gC (by simp [TP.wr]) (e ▸ hg), fun ad e e2 => o.pA ad e (e2 ▸ hg)⟩)
  pn := h.pn
  offA := h.offA
  offR := h.offR
  sepS := h.sepS
  sepA := h.sepA
  low := h.low.mono k.size
def BqRet (w2 : World) (A8 A7 : Option Addr) (c8 c7 : Nat) (out : List DV) (C : TC) (e : Ending) (w3 : World) : Prop :=
  ∃ (Ta : TP) (ds' : List DV), e = .returned (.tuple #[.pointer (some ⟨Ta.b, 0, none⟩), .int .i64 0]) ∧ TrAt w3 Ta ds' C tsz ∧ Fr [] w2 w3 ∧ (∀ g ∈ Ta.wr, w2.heap.size ≤ g) ∧
    Calls Try.prog 25 #[.slice A8 C.nd c8, .slice A7 C.n c7] w3 (fun e w4 => ∃ Tq : TP, e = .returned (.tuple #[.pointer (some ⟨Tq.b, 0, none⟩), .int .i64 0]) ∧ TqAt w4 Tq out C tsz ∧ Fr [] w3 w4 ∧ (∀ g ∈ Tq.wr, w3.heap.size ≤ g) ∧ TqOff Tq out Ta.wr)
theorem brdq_new {w2 : World} {b7 b8 : Nat} {A8 A7 : Option Addr} {c8 c7 m : Nat} {R : Nat → RailD} {rk : Nat → Nat} {raw out : List DV} (h25 : w2.ownsRow b7 49 3 (.slice A7 m c7) m (rlcs R m)) (hg : Good25 m R rk)
    (h27 : w2.ownsRow b8 46 13 (.slice A8 out.length c8) out.length (dvcs out)) (hrl : ∀ x ∈ out, OwnRails w2 b8 x.d x.rl) (hso : SomeTo raw out m (min raw.length 6)) :
    ∃ C : TC, C.n = m ∧ out.length = C.nd ∧ C.nd ≤ 6 ∧ C.n ≤ 8 ∧ TOk C ∧ Calls Try.prog 18 #[.slice A8 out.length c8, .slice A7 m c7] w2 (BqRet w2 A8 A7 c8 c7 out C) := by
  have hsok := someOk_of hso
  obtain ⟨ch, hch⟩ := good_ch hg
  have hn8 := hg.n8
  have hok := mkTC_ok hsok hn8 hch
  have h6 := hsok.len
  obtain ⟨A8', c8', e8, -, hr8, hb8⟩ := own_slice h27
  injection e8 with e8 _ e8c
  subst e8 e8c
  obtain ⟨A7', c7', e7, hn7, hr7, hb7⟩ := own_slice h25
  injection e7 with e7 _ e7c
  subst e7 e7c
  have hdv : DvsAt w2 A8 out := ⟨hr8, fun x hx => (hrl x hx).at_⟩
  have h64 : ∀ x ∈ out, ∀ k, (x.rl k).length ≤ 4096 := fun x hx k => by
    obtain ⟨i, hi⟩ := List.getElem?_of_mem hx
    obtain ⟨r, rf, rfl⟩ := hsok.el i x hi
    have := (someRl_ok r m k).2.2
    show (someRl r m k).length ≤ 4096
    omega
  have htie := mkTC_tie out m R ch
  refine ⟨mkTC out m R ch, rfl, rfl, h6, hn8, hok, (dnew_any A8 c8 out A7 c7 (mkTC out m R ch) w2 hdv h64 (by unfold maxLen; omega) (fun x hx q hq n c e => ?_) rfl htie hr7 (fun e => ?_) (by show m ≤ maxLen; unfold maxLen; omega)).mono ?_⟩
  · rcases (hrl x hx q hq).2 with ⟨h0, h1⟩ | ⟨g, cap, cur, hv, _⟩
    · rw [h0] at e
      injection e with _ _ e
      exact e.symm
    · rw [hv] at e
      injection e with e
      cases e
  · rcases h25.2 with ⟨h0, h1⟩ | ⟨g, cap, cur, hv, _⟩
    · injection h0 with _ a b
      exact ⟨b, h1⟩
    · injection hv with hv
      rw [e] at hv
      cases hv
  rintro e w3 ⟨hf, ⟨hne, -⟩ | ⟨-, Ta, ds', rfl, hat3, hnew3, hhi⟩⟩
  · exact absurd (good_new hsok hg) hne
  have hge : ∀ g ∈ Ta.wr, w2.heap.size ≤ g := fun g hg => by
    obtain ⟨n1, n2, n3, n4, n5⟩ := hnew3
    simp only [TP.wr, List.mem_cons, List.not_mem_nil, or_false] at hg
    omega
  refine ⟨Ta, ds', rfl, hat3, hf, hge, ?_⟩
  have hlA : ∀ ad, A8 = some ad → ad.block < w2.heap.size := fun ad e => (hb8 ad e).2
  have hlR : ∀ x ∈ out, ∀ q, q < 4 → ∀ g, (x.d.rf q).ownBlock = some g → g < w2.heap.size := fun x hx q hq g e => (own_block (hrl x hx q hq) e).2.1
  have hs := hf.size
  have hlt3 : ∀ g ∈ Ta.wr, g < w3.heap.size := fun g hg => by
    obtain ⟨h1, h2, ⟨h3, h4, h5, -⟩, -, -⟩ := hat3.low
    simp only [TP.wr, List.mem_cons, List.not_mem_nil, or_false] at hg
    omega
  refine (tqnew_any A8 c8 out A7 c7 (mkTC out m R ch) w3 (hdv.fr0 hf) h64 (by unfold maxLen; omega) rfl htie (hr7.fr0 hf) (by show m ≤ maxLen; unfold maxLen; omega)).mono ?_
  rintro e w4 ⟨hf4, ⟨hne, -⟩ | ⟨-, Tq, rfl, hTA, hT, hnew, hpA⟩⟩
  · exact absurd (good_new hsok hg) hne
  have hat := hT (fun ad e => Nat.lt_of_lt_of_le (hlA ad e) hs) (fun x hx q hq g e => Nat.lt_of_lt_of_le (hlR x hx q hq g e) hs)
  have hge4 : ∀ g ∈ Tq.wr, w3.heap.size ≤ g := fun g hg => by
    obtain ⟨n1, n2, n3, n4, n5⟩ := hnew
    simp only [TP.wr, List.mem_cons, List.not_mem_nil, or_false] at hg
    omega
  refine ⟨Tq, rfl, hat, hf4, hge4, ⟨fun g hg hm => ?_, fun ad e hm => ?_, fun x hx q hq g e hm => ?_, fun ad e hm => ?_⟩⟩
  · have := hge4 g hg
    have := hlt3 g hm
    omega
  · rw [hTA] at e
    have := hlA ad e
    have := hge _ hm
    omega
  · have := hlR x hx q hq g e
    have := hge _ hm
    omega
  · have := hpA ad e
    have := hlt3 _ hm
    omega
/-- Set prints few operations. -/
theorem setM_len {C : TC} (hC : TOk C) (now : Nat) (d k : Int) (s : TSt) : (setM C now d k s).2.1.length ≤ 100000 := by
  unfold setM
  split
  · exact Nat.zero_le _
  · rename_i h1
    split
    · exact Nat.zero_le _
    · have hd : d.toNat < C.nd := by omega
      have h2 := acqF_len hC now (l := acqs C s d.toNat k.toNat) (r := s.r) (acqs_ok hC hd).1
      have h3 := relF_len hC now (l := rels C s d.toNat k.toNat) (r := (acqF C now (acqs C s d.toNat k.toNat) s.r).1) (fun v hv => ⟨((rels_ok hC hd).1 v hv).1, ((rels_ok hC hd).1 v hv).2.1⟩)
      have h4 : (acqs C s d.toNat k.toNat).length ≤ 64 := Nat.le_trans (List.length_filter_le _ _) (need_len hC _ _)
      have h5 : (rels C s d.toNat k.toNat).length ≤ 64 := by
        unfold rels
        rw [List.length_reverse]
        exact Nat.le_trans (List.length_filter_le _ _) (need_len hC _ _)
      show (setOk C now d.toNat k.toNat s).2.length ≤ 100000
      unfold setOk
      rw [List.length_append]
      omega
end Go.Proofs.Ytdocdgghphhdpaa

/- Walks: the reference's device tree: Accessible. -/
namespace Go.Proofs.Ytdocdgghphhdpaa
open Go.RowKit

def AqR (w : World) (C : TC) (P : RP) (s : TSt) (now : Nat) (B : Bool) (m : Nat) (v1 : Value) (wr : World) : Prop :=
  ∃ (f : Nat) (d : Int), v1 = .int .i64 d ∧ accF C P s now f d = B ∧ d < (f : Int) ∧ f ≤ C.nd ∧ Fr [] w wr ∧ m = f
def AqI (wo : World) (P : RP) (s : TSt) (now : Nat) (L : List Int) (m : Nat) (i : Value) (wr : World) : Prop :=
  ∃ j : Nat, j ≤ L.length ∧ i = .int .i64 (j : Int) ∧ (∀ v ∈ L.take j, powI P s.r v now = true) ∧ Fr [] wo wr ∧ m = L.length - j
section
variable {w : World} {T : TP} {ds : List DV} {C : TC} {s : TSt}
set_option maxHeartbeats 8000000 in
set_option maxRecDepth 100000 in
theorem tqacc_any (h : TqAt w T ds C s) (hC : TOk C) (d : Int) (now : Nat) :
    Calls Try.prog 29 #[.pointer (some ⟨T.b, 0, none⟩), .int .i64 d, .int .u64 (now : Int)] w fun e w' => e = .returned (.bool (accM C T.pr s d now)) ∧ Fr [] w w' := by
  have HAT := hide h
  have HC := hide hC
  obtain ⟨c0, -, -, -⟩ := h.cells
  by_cases h0 : d < 0
  · have HM : Hid (accM C T.pr s d now = false) := hide (by rw [accM, if_neg (by omega)])
    have b0 : decide (d < 0) = true := decide_eq_true h0
    clear h hC h0
    go_enter Try.func29, Try.ntmps29
    go_wp2
    go_ret
    exact ⟨by rw [HM.out]; rfl, Fr.refl _ _⟩
  have b0 : decide (d < 0) = false := decide_eq_false h0
  by_cases h1 : (C.nd : Int) ≤ d
  · have HM : Hid (accM C T.pr s d now = false) := hide (by rw [accM, if_neg (by omega)])
    have b1 : decide ((C.nd : Int) ≤ d) = true := decide_eq_true h1
    clear h hC h0 h1
    go_enter Try.func29, Try.ntmps29
    go_wp2
    go_ret
    exact ⟨by rw [HM.out]; rfl, Fr.refl _ _⟩
  have b1 : decide ((C.nd : Int) ≤ d) = false := decide_eq_false h1
  have HM : Hid (accM C T.pr s d now = accF C T.pr s now C.nd d) := hide (by rw [accM, if_pos (by omega)])
  have hd2 : d < (C.nd : Int) := by omega
  have hSS := (h.sS (by omega)).1
  have HSS := hide hSS
  clear h hC hSS h0 h1
  generalize hBB : accF C T.pr s now C.nd d = B at HM
  have HBB := hide hBB
  clear hBB
  go_enter Try.func29, Try.ntmps29
  go_wp2
  clear b0 b1 c0
  go_loopg [7] C.nd (fun m v1 wr => AqR w C T.pr s now B m v1 wr)
  case atStart => exact ⟨C.nd, d, rfl, HBB.out, hd2, Nat.le_refl _, Fr.refl _ _, rfl⟩
  case round =>
    clear hd2 HBB
    obtain ⟨f, d, rfl, hF, hdf, hfn, hfr, hmm⟩ := hrel
    have HF := hide hF
    have HMM := hide hmm
    have HATr := hide (HAT.out.fr0 hfr)
    clear hF hmm
    by_cases hd0 : 0 ≤ d
    · obtain ⟨q, rfl⟩ := Int.eq_ofNat_of_zero_le hd0
      obtain ⟨f', rfl⟩ : ∃ f', f = f' + 1 := ⟨f - 1, by omega⟩
      have hqn : q < C.nd := by omega
      have hqi : (q : Int) < (C.nd : Int) := by omega
      obtain ⟨x, hx, hpx, hrx, hra, ob, oo, hA, hpd⟩ := HATr.out.dev hqn
      have HA := hide hA
      obtain ⟨c0, c1, c2, -⟩ := HATr.out.cells
      rw [hA] at c0
      rw [HSS.out] at c2
      have q0 := HATr.out.stAt hqn
      have p0 := hpd.1
      rw [hpx] at p0
      obtain ⟨A0, cp0, e0, hrow⟩ := hra 0 (by omega)
      have p1 := hpd.2.1
      rw [e0, hrx] at p1
      rw [hrx] at hrow
      have HROW := hide hrow
      have hLn := HC.out.len q 0
      have hpb := HC.out.par q hqn
      have HF2 : Hid ((accR C T.pr s now q && accF C T.pr s now f' (C.par q)) = B) := hide (by
        have := HF.out
        rw [accF, if_neg (by omega), Int.toNat_natCast] at this
        exact this)
      have HAR := hide (show accR C T.pr s now q = (decide (s.st q = 0) && (C.rl q 0).all fun v => powI T.pr s.r v now) from rfl)
      have g0 : decide ((0 : Int) ≤ (q : Int)) = true := decide_eq_true (by omega)
      clear hx hpx hrx hra hA hpd e0 hrow HF hd0
      by_cases hs0 : s.st q = 0
      · have HAR2 : Hid (accR C T.pr s now q = (C.rl q 0).all fun v => powI T.pr s.r v now) := hide (by rw [HAR.out, hs0]; rfl)
        rw [hs0] at q0
        have q0' : wr.cell? ⟨T.gS, q, none⟩ = some (.int .i64 0) := q0
        clear HAR hs0 q0
        generalize C.rl q 0 = L at p1 HROW hLn HAR2
        generalize C.par q = pq at p0 hpb HF2
        go_wp2
        have HK := hide (And.intro c0 (And.intro c1 (And.intro p0 p1)))
        clear c0 c1 c2 p0 p1 q0' g0
        obtain ⟨wo, hwo⟩ : ∃ wo, wo = wr := ⟨_, rfl⟩
        subst hwo
        go_loopg [8] L.length (fun m i wr => AqI wo T.pr s now L m i wr)
        case atStart => exact ⟨0, by omega, rfl, (fun v hv => by simp at hv), Fr.refl _ _, rfl⟩
        case round =>
          obtain ⟨j, hj, rfl, hall, hfo, hmm⟩ := hrel
          have HM2 := hide hmm
          have HALL := hide hall
          have c0 := hfo.cell HK.out.1 (by simp)
          have c1 := hfo.cell HK.out.2.1 (by simp)
          have p0 := hfo.cell HK.out.2.2.1 (by simp)
          have p1 := hfo.cell HK.out.2.2.2 (by simp)
          have HATo := hide (HATr.out.fr0 hfo)
          have hfwr := hfr.call hfo
          clear hmm hall
          by_cases hjn : j < L.length
          · obtain ⟨v, hv⟩ : ∃ v, L[j]? = some v := ⟨_, List.getElem?_eq_getElem hjn⟩
            obtain ⟨o1, o2, rfl, e1⟩ := (HROW.out.fr0 hfo).int hv
            have hji : (j : Int) < (L.length : Int) := by omega
            have HV := hide hv
            have HPW := hide (fun (n : Nat) => rqpowered_any (w := wr.drewN n) ((HATo.out.fr0 ((Fr.refl _ _).drewN n)).rl) v now)
            clear hv
            generalize hpw : powI T.pr s.r v now = pw at HPW
            cases pw with
            | true =>
              have HA2 : Hid (∀ u ∈ L.take (j + 1), powI T.pr s.r u now = true) := hide (fun u hu => by
                rw [take_succ_some HV.out, List.mem_append, List.mem_singleton] at hu
                rcases hu with hu | rfl
                · exact HALL.out u hu
                · exact hpw)
              clear hpw
              go_wp2
              go_quiet ((go_at_call 71; exact quiet_id27 (HPW.out _)))
              go_wp2
              go_roundg (L.length - (j + 1))
              case measure => rw [HM2.out]; omega
              case rel => exact ⟨j + 1, by omega, by go_num, HA2.out, hfo.drewN _, rfl⟩
            | false =>
              have HE : Hid (B = false) := hide (by
                rw [← HF2.out, HAR2.out, Bool.and_eq_false_iff]
                refine .inl (List.all_eq_false.2 ⟨v, List.mem_of_getElem? HV.out, by rw [hpw]; decide⟩))
              clear hpw
              go_wp2
              go_quiet ((go_at_call 71; exact quiet_id27 (HPW.out _)))
              go_wp2
              go_ret
              exact ⟨by rw [HM.out, HE.out]; rfl, hfwr.drewN _⟩
          · have hje : j = L.length := by omega
            subst hje
            have hji : ¬ (L.length : Int) < (L.length : Int) := by omega
            have HE : Hid (accF C T.pr s now f' pq = B) := hide (by
              rw [← HF2.out, HAR2.out, show (L.all fun v => powI T.pr s.r v now) = true from List.all_eq_true.2 (fun v hv => HALL.out v (by rw [List.take_length]; exact hv))]
              rfl)
            go_wp2
            go_roundg f'
            case measure => rw [HMM.out]; omega
            case rel => exact ⟨f', pq, rfl, HE.out, by omega, by omega, hfwr, rfl⟩
      · have HE : Hid (B = false) := hide (by rw [← HF2.out, HAR.out, decide_eq_false hs0]; rfl)
        have g1 : ((s.st q : Int) != 0) = true := by simp [hs0]
        generalize s.st q = sq at q0 g1
        clear HAR hs0
        go_wp2
        go_ret
        exact ⟨by rw [HM.out, HE.out]; rfl, hfr⟩
    · have HE : Hid (B = true) := hide (by
        rw [← HF.out]
        cases f with
        | zero => rfl
        | succ f => rw [accF, if_pos (by omega)])
      have g0 : decide ((0 : Int) ≤ d) = false := decide_eq_false hd0
      clear HF
      go_wp2
      go_ret
      exact ⟨by rw [HM.out, HE.out]; rfl, hfr⟩
end
end Go.Proofs.Ytdocdgghphhdpaa

