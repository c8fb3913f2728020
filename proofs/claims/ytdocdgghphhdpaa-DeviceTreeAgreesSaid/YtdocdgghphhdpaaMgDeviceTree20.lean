/- Walks: the reference's Check. -/
import Derived.Test.YtdocdgghphhdpaaDevR2Mg
import Derived.Test.YtdocdgghphhdpaaMgDeviceTree19
import Derived.Test.YtdocdgghphhdpaaRqNMg
import Derived.Test.YtdocdgghphhdpaaTrW3Mg
namespace Go.Proofs.Ytdocdgghphhdpaa
open Go.RowKit

set_option maxHeartbeats 4000000 in
set_option maxRecDepth 100000 in
theorem rcheck27_any (A : Option Addr) (cp : Nat) (l : List DV) (n : Int) (w : World) (hr : DvsAt w A l) (hn : ∀ x ∈ l, ∀ k, (x.rl k).length ≤ 4096) (hl : l.length ≤ maxLen) :
    Calls Try.prog 66 #[.slice A l.length cp, .int .i64 n] w fun e w' => e = .returned (.int .i64 (dcheckM l n)) ∧ Fr [] w w' := by
  unfold maxLen at hl
  have HR := hide hr
  have HN := hide hn
  clear hr hn
  by_cases hb1 : 64 < l.length
  · have hb' : (64 : Int) < (l.length : Int) := by omega
    have HM : Hid (dcheckM l n = 1) := hide (by simp [dcheckM, hb1])
    go_enter Try.func66, Try.ntmps66
    go_wp2
    go_ret
    exact ⟨ret_int HM.out.symm, Fr.refl _ _⟩
  have hb1' : ¬ (64 : Int) < (l.length : Int) := by omega
  by_cases hb2 : n < 0
  · have HM : Hid (dcheckM l n = 1) := hide (by simp [dcheckM, hb2])
    go_enter Try.func66, Try.ntmps66
    go_wp2
    go_ret
    exact ⟨ret_int HM.out.symm, Fr.refl _ _⟩
  by_cases hb3 : 64 < n
  · have HM : Hid (dcheckM l n = 1) := hide (by simp [dcheckM, hb3])
    go_enter Try.func66, Try.ntmps66
    go_wp2
    go_ret
    exact ⟨ret_int HM.out.symm, Fr.refl _ _⟩
  have HM : Hid (dcheckM l n = if devsB l n = true then 0 else 1) := hide (by simp [dcheckM, hb1, hb2, hb3])
  go_enter Try.func66, Try.ntmps66
  go_wp2
  go_loopg [5] l.length (fun m i wr => DChkRel w l n m i wr)
  case atStart => exact ⟨0, by omega, rfl, fun i x hi => by omega, Fr.refl _ _, rfl⟩
  case round =>
    obtain ⟨k, hk, rfl, hall, hfr, hmm⟩ := hrel
    have HMM := hide hmm
    have HALL := hide hall
    clear hmm hall
    by_cases hlt : k < l.length
    · obtain ⟨x, hx⟩ : ∃ x, l[k]? = some x := ⟨_, List.getElem?_eq_getElem hlt⟩
      obtain ⟨ob, oo, rfl, c0, c1, c2, c3, c4, c5, c6, c7, c8, c9, c10, c11, c12⟩ := (HR.out.fr0 hfr).el hx
      have HRA := hide ((HR.out.fr0 hfr).2 x (List.mem_of_getElem? hx))
      have HNX := hide (HN.out x (List.mem_of_getElem? hx))
      have HNO : Hid (devOk x k n = false → dcheckM l n = 1) := hide (fun h => by rw [HM.out, devsB_no hx h]; rfl)
      have HST := hide (fun h => devsTo_succ HALL.out hx h)
      have hkl : (k : Int) < (l.length : Int) := by omega
      clear hx HALL
      go_wp2_with fail
      clear c0 c1 c2 c3 c4 c5 c6 c7 c8 c9 c10 c11 c12
      refine (rvalid_any x k n wr HRA.out HNX.out).mono ?_
      rintro e w3 ⟨rfl, hf3⟩
      have hf03 := hfr.call hf3
      cases hok : devOk x k n with
      | false =>
        have HF := hide (HNO.out hok)
        go_wp2
        go_ret
        exact ⟨ret_int HF.out.symm, hf03⟩
      | true =>
        have HOK := hide (HST.out hok)
        go_wp2
        go_roundg (l.length - (k + 1))
        case measure => rw [HMM.out]; omega
        case rel => exact ⟨k + 1, by omega, by go_num, HOK.out, hf03, rfl⟩
    · have hkl : ¬ (k : Int) < (l.length : Int) := by omega
      have HF := hide (devsB_yes HALL.out (by omega))
      rw [HF.out] at HM
      go_wp2
      go_ret
      exact ⟨ret_int (by rw [HM.out]; rfl), hfr⟩
end Go.Proofs.Ytdocdgghphhdpaa

/- Walks: the reference's device tree: New. -/
namespace Go.Proofs.Ytdocdgghphhdpaa
open Go.RowKit

def TqNewRet (w : World) (A : Option Addr) (ds : List DV) (C : TC) (e : Ending) (w' : World) : Prop :=
  Fr [] w w' ∧ ((dnewM ds C.R C.n ≠ 0 ∧ e = .returned (.tuple #[.pointer none, .int .i64 (dnewM ds C.R C.n)])) ∨ (dnewM ds C.R C.n = 0 ∧ ∃ T : TP, e = .returned (.tuple #[.pointer (some ⟨T.b, 0, none⟩), .int .i64 0]) ∧ T.A = A ∧ ((∀ ad, A = some ad → ad.block < w.heap.size) → (∀ x ∈ ds, ∀ q, q < 4 → ∀ g, (x.d.rf q).ownBlock = some g → g < w.heap.size) → TqAt w' T ds C tsz) ∧ TrNew T w.heap.size ∧ ∀ ad, T.pr.A = some ad → w.heap.size ≤ ad.block))
structure TqnAt (w2 wr : World) (A : Option Addr) (cp : Nat) (C : TC) (P : RP) (b k : Nat) (vS : Value) : Prop where
  blk : Blk wr b 61 #[.slice A C.nd cp, .pointer (some ⟨P.b, 0, none⟩), vS, .int .u64 0]
  ownS : wr.ownsRow b 3 1 vS k (List.replicate k (.int .i64 4))
  rl : RqAt wr P C.R rsz
  low : RlLow P b
  fr : Fr [] w2 wr
  size : w2.heap.size ≤ b
def TqnRel (w2 : World) (A : Option Addr) (cp : Nat) (C : TC) (P : RP) (b m : Nat) (i : Value) (wr : World) : Prop :=
  ∃ k vS, k ≤ C.nd ∧ i = .int .i64 (k : Int) ∧ TqnAt w2 wr A cp C P b k vS ∧ m = C.nd - k
theorem TqnAt.step {w2 wr w9 : World} {A : Option Addr} {cp : Nat} {C : TC} {P : RP} {b k : Nat} {vS vS' : Value} (h : TqnAt w2 wr A cp C P b k vS) (f : Fr vS.ownBlock.toList wr w9) (hS : w9.ownsRow b 3 1 vS' (k + 1) (List.replicate k (.int .i64 4) ++ [.int .i64 4])) :
    TqnAt w2 (w9.setCell ⟨b, 2, none⟩ vS') A cp C P b (k + 1) vS' := by
  have hbn : b ∉ vS.ownBlock.toList := fun hm => by
    obtain ⟨-, -, cs, h2⟩ := own_block h.ownS (show vS.ownBlock = some b by simpa using hm)
    exact Blk.ne_ h2 h.blk (by decide) rfl
  have hb9 := h.blk.fr f hbn
  have fb9 : Fr [b] w9 (w9.setCell ⟨b, 2, none⟩ vS') := (Fr.refl _ _).set (.inl (by simp)) _
  have fall : Fr (b :: vS.ownBlock.toList) wr (w9.setCell ⟨b, 2, none⟩ vS') := (f.mono (fun _ _ h => List.mem_cons_of_mem _ h)).trans (fb9.mono (fun _ _ h => by simp at h; simp [h]))
  have hall : ∀ y ∈ b :: vS.ownBlock.toList, b ≤ y := fun y hy => by
    rcases List.mem_cons.1 hy with rfl | hy
    · exact Nat.le_refl _
    · exact (own_block h.ownS (by simpa using hy)).1
  refine ⟨hb9.set_ 2 vS', ?_, h.rl.frGe fall h.low hall, h.low, h.fr.step fall (fun y hy => .inr (Nat.le_trans h.size (hall y hy))), h.size⟩
  rw [show List.replicate (k + 1) (Value.int .i64 4) = List.replicate k (.int .i64 4) ++ [.int .i64 4] from List.replicate_succ']
  refine own_fr hS fb9 (fun z hz => ?_)
  obtain ⟨-, -, cs, h2⟩ := own_block hS hz
  have := Blk.ne_ h2 hb9 (by decide)
  simpa using this
theorem TqnAt.done {w w2 wr : World} {A : Option Addr} {cp : Nat} {ds : List DV} {C : TC} {P : RP} {b : Nat} {vS : Value} (h : TqnAt w2 wr A cp C P b C.nd vS) (hn : P.n = C.n) (hr : DvsAt w A ds) (hnd : ds.length = C.nd) (htie : ∀ i x, ds[i]? = some x → x.d.par = C.par i ∧ x.rl = C.rl i) (hf : Fr [] w wr) (hwb : w.heap.size ≤ b) (hnew : RlNew P w.heap.size) :
    ∃ T : TP, T.b = b ∧ T.A = A ∧ ((∀ ad, A = some ad → ad.block < w.heap.size) → (∀ x ∈ ds, ∀ q, q < 4 → ∀ g, (x.d.rf q).ownBlock = some g → g < w.heap.size) → TqAt wr T ds C tsz) ∧ TrNew T w.heap.size ∧ ∀ ad, T.pr.A = some ad → w.heap.size ≤ ad.block := by
  obtain ⟨S, cS, rfl, -, -, hoS⟩ := own_slice h.ownS
  obtain ⟨gS, hgS, hS1, hS2⟩ : ∃ gS, b ≤ gS ∧ (0 < C.nd → S = some ⟨gS, 0, none⟩ ∧ OwnR wr gS 3 (List.replicate C.nd (.int .i64 4))) ∧ (gS = b ∨ (Value.slice S C.nd cS).ownBlock = some gS) := by
    by_cases h0 : 0 < C.nd
    · obtain ⟨g, cp, e, -, hb, hr⟩ := own_cut h.ownS h0
      injection e with e1 e2 e3
      subst e1 e3
      exact ⟨g, hb, fun _ => ⟨rfl, hr⟩, .inr rfl⟩
    · exact ⟨b, Nat.le_refl _, fun h => absurd h h0, .inl rfl⟩
  have hlt : gS < wr.heap.size := by
    rcases hS2 with rfl | h2
    · exact h.blk.lt
    · exact (own_block h.ownS h2).2.1
  obtain ⟨l1, l2, l3, l4⟩ := h.low
  obtain ⟨n1, n2, n3, n4⟩ := hnew
  have hws := hf.size
  refine ⟨⟨b, A, cp, S, gS, cS, P⟩, rfl, rfl, fun hlA hlR => ?_, ⟨by dsimp only; omega, by dsimp only; omega, by dsimp only; omega, by dsimp only; omega, by dsimp only; omega⟩, n4⟩
  exact {
    blk := h.blk
    dv := hr.fr0 hf
    len := hnd
    tie := htie
    sS := fun h0 => ⟨(hS1 h0).1, by rw [show tsz.st = fun _ => 4 from rfl, ← rep4_cells]; exact (hS1 h0).2⟩
    rl := h.rl
    pn := hn
    offA := fun ad e hm => by
      have := hlA ad e
      simp only [TP.wr, List.mem_cons, List.not_mem_nil, or_false] at hm
      omega
    offR := fun x hx q hq g hg hm => by
      have := hlR x hx q hq g hg
      simp only [TP.wr, List.mem_cons, List.not_mem_nil, or_false] at hm
      omega
    sepS := by refine ⟨?_, ?_, ?_⟩ <;> dsimp only <;> omega
    sepA := fun ad e => by have := l4 ad e; dsimp only; omega
    low := ⟨h.blk.lt, hlt, h.rl.lowAt, fun ad e => by have := hlA ad e; dsimp only at *; omega, fun x hx q hq g hg => by have := hlR x hx q hq g hg; omega⟩ }
set_option maxHeartbeats 8000000 in
set_option maxRecDepth 100000 in
theorem tqnew_any (A : Option Addr) (cp : Nat) (ds : List DV) (A2 : Option Addr) (cp2 : Nat) (C : TC) (w : World) (hr : DvsAt w A ds) (hn : ∀ x ∈ ds, ∀ k, (x.rl k).length ≤ 4096) (hl : ds.length ≤ maxLen)
    (hnd : ds.length = C.nd) (htie : ∀ i x, ds[i]? = some x → x.d.par = C.par i ∧ x.rl = C.rl i) (hr2 : Row w A2 (rlcs C.R C.n)) (hn2 : C.n ≤ maxLen) :
    Calls Try.prog 25 #[.slice A ds.length cp, .slice A2 C.n cp2] w (TqNewRet w A ds C) := by
  obtain ⟨i1, hj0, hy0, hy1, hy2⟩ := info_parts int_info1
  have HII := hide (And.intro hj0 (And.intro hy0 (And.intro hy1 hy2)))
  have HR := hide hr
  have HN := hide hn
  have HTIE := hide htie
  have HR2 := hide hr2
  have HL := hide hl
  have HN2 := hide hn2
  have HND := hide hnd
  have HL64 : Hid (dcheckM ds (C.n : Int) = 0 → ds.length ≤ 64) := hide (fun h => by
    unfold dcheckM at h
    split at h
    · cases h
    · omega)
  clear hnd hr hn htie hr2 hj0 hy0 hy1 hy2 hl hn2
  by_cases hc0 : dcheckM ds (C.n : Int) = 0
  case neg =>
    have HM : Hid (dnewM ds C.R C.n = dcheckM ds (C.n : Int)) := hide (by rw [dnewM, if_neg hc0])
    have b1 : (dcheckM ds (C.n : Int) != 0) = true := by simp [hc0]
    have HC0 := hide hc0
    clear hc0
    go_enter Try.func25, Try.ntmps25
    go_wp2_with fail
    refine (rcheck27_any A cp ds (C.n : Int) w HR.out HN.out HL.out).mono ?_
    rintro e w1 ⟨rfl, hf1⟩
    generalize dcheckM ds (C.n : Int) = c at b1 HM HC0 ⊢
    go_wp2
    go_ret2
    exact ⟨hf1, .inl ⟨by rw [HM.out]; exact HC0.out, by rw [HM.out]; rfl⟩⟩
  have HM0 : Hid (dnewM ds C.R C.n = rqnewM C.R C.n) := hide (by rw [dnewM, if_pos hc0, rqnew_eq])
  have hl64 := HL64.out hc0
  have HC0 := hide hc0
  clear hc0 HL64
  go_enter Try.func25, Try.ntmps25
  go_wp2_with fail
  refine (rcheck27_any A cp ds (C.n : Int) w HR.out HN.out HL.out).mono ?_
  rintro e w1 ⟨rfl, hf1⟩
  rw [HC0.out]
  go_wp2_with fail
  refine (rqnew_any A2 cp2 C.n C.R w1 (HR2.out.fr0 hf1) HN2.out).mono ?_
  rintro e w2 ⟨hf2, ⟨hne, rfl⟩ | ⟨he, P, rfl, hPn, hrl, hnew⟩⟩
  · have HNE := hide hne
    have b1 : (rqnewM C.R C.n != 0) = true := by simp [hne]
    have hf02 := hf1.call hf2
    clear hne hf1 hf2
    generalize rqnewM C.R C.n = c at b1 HM0 HNE ⊢
    go_wp2
    go_ret2
    exact ⟨hf02, .inl ⟨by rw [HM0.out]; exact HNE.out, by rw [HM0.out]; rfl⟩⟩
  · have HM : Hid (dnewM ds C.R C.n = 0) := hide (by rw [HM0.out, he])
    have hf02 := hf1.call hf2
    have HPN := hide hPn
    have hsz1 := hf1.size
    have HNW : Hid (RlNew P w.heap.size) := hide ⟨by have := hnew.1; omega, by have := hnew.2.1; omega, by have := hnew.2.2.1; omega, fun ad e => by have := hnew.2.2.2 ad e; omega⟩
    have HLW := hide hrl.lowAt
    have HRL := hide hrl
    clear he hf1 hf2 hPn hrl hnew HM0 hsz1
    rw [HND.out]
    have hnd64 : C.nd ≤ 64 := by rw [← HND.out]; exact hl64
    go_upto_region 8 with (fail)
    have hb0 := Blk.new w2 61 #[.slice A C.nd cp, .pointer (some ⟨P.b, 0, none⟩), .slice none 0 0, .int .u64 0]
    have hfb : Fr [] w2 (w2.alloc (.cells #[.slice A C.nd cp, .pointer (some ⟨P.b, 0, none⟩), .slice none 0 0, .int .u64 0] 61)) := (Fr.refl _ _).alloc _
    have HS0 : Hid (TqnAt w2 (w2.alloc (.cells #[.slice A C.nd cp, .pointer (some ⟨P.b, 0, none⟩), .slice none 0 0, .int .u64 0] 61)) A cp C P w2.heap.size 0 (.slice none 0 0)) := hide ⟨hb0, own_nil _ _ _ _, HRL.out.fr0 hfb, HLW.out, hfb, Nat.le_refl _⟩
    have hsz2 := hf02.size
    clear hb0 hfb HRL HLW
    generalize w2.alloc (.cells #[.slice A C.nd cp, .pointer (some ⟨P.b, 0, none⟩), .slice none 0 0, .int .u64 0] 61) = w3 at HS0 ⊢
    generalize hbe : w2.heap.size = b at HS0 hsz2 ⊢
    have HBE := hide hbe
    clear hbe
    go_wp2
    go_loopg [10] C.nd (fun m i wr => TqnRel w2 A cp C P b m i wr)
    case atStart => exact ⟨0, _, by omega, rfl, HS0.out, rfl⟩
    case round =>
      obtain ⟨k, vS, hk, rfl, hat, hmm⟩ := hrel
      have HMM := hide hmm
      have HAT := hide hat
      clear hmm HS0 hat
      obtain ⟨S9, m9, rfl, -, -, -⟩ := own_slice HAT.out.ownS
      by_cases hkn : k < C.nd
      · have hki : (k : Int) < (C.nd : Int) := by omega
        have t2 : wr.cell? ⟨b, 2, none⟩ = some (.slice S9 k m9) := HAT.out.blk.cell 2
        have HOS := hide HAT.out.ownS
        have hbw : b ≤ wr.heap.size := Nat.le_of_lt HAT.out.blk.lt
        go_upto_region 10 with (first
          | (at_builtin
             refine wpList_append_row _ rfl (.tmp 40) (.tmp 41) _ rfl b 3 i1 (.int .i64 0) 1 8 Try.underlying34 HII.out.1 HII.out.2.1 HII.out.2.2.1 HII.out.2.2.2 rfl (by omega) (.slice S9 k m9) k (List.replicate k (.int .i64 4)) rfl
               (own_fr HOS.out ((Fr.refl [] _).alloc _) (fun _ _ => by simp)) (some ⟨wr.heap.size, 0, none⟩) 1 1 [.int .i64 4] rfl rfl (row_one wr _ _) (by intro u hu; simp at hu; subst hu; rfl) (by simp only [maxLen]; omega) (by omega) (by simp; omega) ?_
             intro v9 w9 hown9 hg9 hat9
             obtain ⟨S8, m8, rfl, -, -, -⟩ := own_slice hown9
             have n9' : b ∉ (Value.slice S9 k m9).ownBlock.toList := fun hm => by obtain ⟨-, -, cs, h2⟩ := own_block HOS.out (show (Value.slice S9 k m9).ownBlock = some b by simpa using hm); exact Blk.ne_ h2 HAT.out.blk (by decide) rfl
             have HB9 := hide ((HAT.out.blk.fr ((Fr.refl [] _).alloc _) (by simp)).fr (Fr.of_grown hg9) n9')
             have t9 := HB9.out.cell 2
             have f9 := HB9.out.frozen 2
             have HOW9 := hide hown9
             have HG9 := hide (Fr.of_grown hg9)
             clear hown9 hg9 hat9 n9'))
        go_wp2
        go_roundg (C.nd - (k + 1))
        case measure => rw [HMM.out]; omega
        case rel => exact ⟨k + 1, _, by omega, by go_num, HAT.out.step ((((Fr.refl [] wr).alloc _).mono (fun _ _ h => by cases h)).trans HG9.out) HOW9.out, rfl⟩
      · have hke : k = C.nd := by omega
        subst hke
        have hki : ¬ (C.nd : Int) < (C.nd : Int) := by omega
        have hf0r := hf02.call HAT.out.fr
        obtain ⟨T, hTb, hTA, hT, hTN⟩ := HAT.out.done HPN.out HR.out HND.out HTIE.out hf0r hsz2 HNW.out
        have HT := hide hT
        have HTN := hide hTN
        have HTA := hide hTA
        subst hTb
        clear hT hTN hTA
        go_wp2
        go_ret2
        exact ⟨hf0r, .inr ⟨HM.out, T, rfl, HTA.out, HT.out, HTN.out⟩⟩
end Go.Proofs.Ytdocdgghphhdpaa

