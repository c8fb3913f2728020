/- Walks: the scheduler's methods start, advance. -/
import Derived.Test.YtdocdgghphhdpaaMgResumeDrives20
namespace Go.Proofs.Ytdocdgghphhdpaa
open Go.RowKit

theorem row_four (w : World) (t : TypeId) (a b c d : Value) : Row (w.alloc (.cells #[a, b, c, d] t)) (some ⟨w.heap.size, 0, none⟩) [a, b, c, d] := row_lit w #[a, b, c, d] t rfl
def StartRet (w : World) (base b N W : Nat) (L : List (Nat × Nat)) (q : St) (e : Ending) (w' : World) : Prop := e = .returned (.tuple #[]) ∧ SchAt w' base b N W L q ∧ FrB base w w'
set_option maxHeartbeats 4000000 in
theorem start31_any {w : World} {base b N W : Nat} {L : List (Nat × Nat)} {D : Nat → Nat} {p : St} (h : SchAt w base b N W L p) (d wk : Nat) (hd : d < N) (hw : wk < W) (hsl : p.sl.length ≤ 128) (hb : p.now + D d ≤ 18446744073709551615) (hbase : base ≤ w.heap.size) :
    Calls Try.prog 94 #[.pointer (some ⟨b, 0, none⟩), nv d, nv wk, uv (D d)] w (StartRet w base b N W L (beginS D p d wk)) := by
  obtain ⟨i0, hi0, hz0, hz1, hz2⟩ := info_parts slot_info
  have HI := hide (And.intro hi0 (And.intro hz0 (And.intro hz1 hz2)))
  clear hi0 hz0 hz1 hz2
  obtain ⟨g0, g1, g2, g3, v, h⟩ := h
  have b1 : b ≠ g1 := Blk.ne_ h.blk h.st (by decide)
  have b2 : b ≠ g2 := Blk.ne_ h.blk h.en (by decide)
  have b3 : b ≠ g3 := Blk.ne_ h.blk h.bz (by decide)
  have n12 : g1 ≠ g2 := Blk.ne_ h.st h.en (by decide)
  have n13 : g1 ≠ g3 := Blk.ne_ h.st h.bz (by decide)
  have n23 := h.ne
  have c1 : w.cell? ⟨b, 1, none⟩ = some (.slice (some ⟨g1, 0, none⟩) N N) := h.blk.cell 1
  have c2 : w.cell? ⟨b, 2, none⟩ = some (.slice (some ⟨g2, 0, none⟩) N N) := h.blk.cell 2
  have c3 : w.cell? ⟨b, 3, none⟩ = some (.slice (some ⟨g3, 0, none⟩) W W) := h.blk.cell 3
  have c4 : w.cell? ⟨b, 4, none⟩ = some (.int .u64 (p.now : Int)) := h.blk.cell 4
  have d1 := h.st.cell hd
  have d2 := h.en.cell hd
  have d3 := h.bz.cell hw
  have f1 := h.st.frozen d
  have f2 := h.en.frozen d
  have f3 := h.bz.frozen wk
  have k1 : (d : Int) < (N : Int) := by omega
  have k2 : (wk : Int) < (W : Int) := by omega
  have kb : (p.now : Int) + (D d : Int) ≤ 18446744073709551615 := by omega
  obtain ⟨A5, c5, rfl, -, -, -⟩ := own_slice h.sl
  have hlow := h.low
  have hown := own_fr h.sl (S := [g1, g2, g3]) (w' := ((w.setCell ⟨g1, d, none⟩ (.bool true)).setCell ⟨g2, d, none⟩ (.int .u64 ((p.now : Int) + (D d : Int)))).setCell ⟨g3, wk, none⟩ (.int .u64 ((p.now : Int) + (D d : Int))))
    ((((Fr.refl _ _).set (.inl (by simp)) _).set (.inl (by simp)) _).set (.inl (by simp)) _) (fun k hk hm => by
      obtain ⟨_, _, cs, hb⟩ := own_block h.sl hk
      simp at hm
      rcases hm with rfl | rfl | rfl
      · exact Blk.ne_ hb h.st (by decide) rfl
      · exact Blk.ne_ hb h.en (by decide) rfl
      · exact Blk.ne_ hb h.bz (by decide) rfl)
  have hvb : ∀ k, (Value.slice A5 p.sl.length c5).ownBlock = some k → k ≠ b ∧ base ≤ k := fun k hk => by
    obtain ⟨h1, _, cs, hb⟩ := own_block h.sl hk
    exact ⟨Blk.ne_ hb h.blk (by decide), h1⟩
  have hfx : FrB base w (((w.setCell ⟨g1, d, none⟩ (.bool true)).setCell ⟨g2, d, none⟩ (.int .u64 ((p.now : Int) + (D d : Int)))).setCell ⟨g3, wk, none⟩ (.int .u64 ((p.now : Int) + (D d : Int)))) := (((FrB.refl base w).set hlow.2.1 _).set hlow.2.2.1 _).set hlow.2.2.2 _
  have hblk3 : Blk (((w.setCell ⟨g1, d, none⟩ (.bool true)).setCell ⟨g2, d, none⟩ (.int .u64 ((p.now : Int) + (D d : Int)))).setCell ⟨g3, wk, none⟩ (.int .u64 ((p.now : Int) + (D d : Int)))) b _ _ := ((h.blk.far (p := ⟨g1, d, none⟩) b1 _).far (p := ⟨g2, d, none⟩) b2 _).far (p := ⟨g3, wk, none⟩) b3 _
  have HB := hide (fun (w2 : World) (v2 : Value) => SchIn.begin_ h (w2 := w2) (v2 := v2) (d := d) (wk := wk) (e := p.now + D d))
  have HOWN := hide hown
  have HVB := hide hvb
  have HLOW := hide hlow
  have HBLK := hide hblk3
  clear h hown hvb hlow hblk3
  go_enter Try.func94, Try.ntmps94
  go_wp2
  clear c1 c2 c3 c4 d1 d2 d3 f1 f2 f3
  obtain ⟨x, hx⟩ : ∃ x, x = p.now + D d := ⟨_, rfl⟩
  have hxe : (p.now : Int) + (D d : Int) = (x : Int) := by omega
  rw [hxe] at HOWN HBLK hfx ⊢
  rw [← hx] at HB
  have HX := hide hx
  clear hx hxe
  generalize hwx : (((w.setCell ⟨g1, d, none⟩ (.bool true)).setCell ⟨g2, d, none⟩ (.int .u64 (x : Int))).setCell ⟨g3, wk, none⟩ (.int .u64 (x : Int))) = wx at HOWN HBLK hfx ⊢
  have HB2 : Hid (∀ (w2 : World) (v2 : Value), Fr (Value.slice A5 p.sl.length c5).ownBlock.toList wx w2 → w2.ownsRow base 109 4 v2 (p.sl.length + 1) (scells (p.sl ++ [⟨d, wk, p.now, x⟩])) → SchIn (w2.setCell ⟨b, 5, none⟩ v2) base b N W L ⟨p.sl ++ [⟨d, wk, p.now, x⟩], p.now⟩ g0 g1 g2 g3 v2) := by
    rw [← hwx]
    exact HB
  clear hwx HB
  have hbl := HBLK.out.lt
  have e4 : wx.cell? ⟨b, 4, none⟩ = some (.int .u64 (p.now : Int)) := HBLK.out.cell 4
  have e5 : wx.cell? ⟨b, 5, none⟩ = some (.slice A5 p.sl.length c5) := HBLK.out.cell 5
  have hfz := HBLK.out.frozen 5
  have n4 := Fr.cell ((Fr.refl [] wx).alloc (.cells #[.int .i64 (d : Int), .int .i64 (wk : Int), .int .u64 (p.now : Int), .int .u64 (x : Int)] 109)) e4 (by simp)
  have n5 := Fr.cell ((Fr.refl [] wx).alloc (.cells #[.int .i64 (d : Int), .int .i64 (wk : Int), .int .u64 (p.now : Int), .int .u64 (x : Int)] 109)) e5 (by simp)
  go_region_law ((refine step_append_row _ (by rfl) (.tmp 39) (.tmp 48) _ (by rfl) base 109 i0 (.agg #[.int .i64 0, .int .i64 0, .int .u64 0, .int .u64 0]) 4 32 Try.underlying104 HI.out.1 HI.out.2.1 HI.out.2.2.1 HI.out.2.2.2 rfl (by omega) (.slice A5 p.sl.length c5) p.sl.length (scells p.sl) (by rfl) (own_fr HOWN.out (((Fr.refl [] wx).alloc _).drew) (fun _ _ => by simp)) (some ⟨wx.heap.size, 0, none⟩) 1 1 [.int .i64 (d : Int), .int .i64 (wk : Int), .int .u64 (p.now : Int), .int .u64 (x : Int)] (by rfl) rfl ((row_four wx 109 (.int .i64 (d : Int)) (.int .i64 (wk : Int)) (.int .u64 (p.now : Int)) (.int .u64 (x : Int))).fr0 ((Fr.refl [] _).drew)) (by intro u hu; simp at hu; rcases hu with rfl | rfl | rfl | rfl <;> rfl) (by simp only [maxLen]; omega) (by omega) (by have := hfx.size; simp; omega) ?_; intro v1 w2 hown2 hg2 hat2; obtain ⟨A2, c2, rfl, -, -, -⟩ := own_slice hown2; have hcv2 := cell_grown (((Fr.refl [] wx).alloc _).drew) hg2 e5 (fun y hy => (HVB.out y hy).1); have e2 := cell_grown (((Fr.refl [] wx).alloc _).drew) hg2 e4 (fun y hy => (HVB.out y hy).1); have hfz2 := frozen_grown (((Fr.refl [] wx).alloc _).drew) hg2 hfz hbl (fun y hy => (HVB.out y hy).1)))
  all_goals
    have hin := HB2.out w2 (.slice A2 (p.sl.length + 1) c2) ((((Fr.refl _ wx).alloc _).drew).trans (Fr.of_grown hg2)) (by rw [scells_snoc]; exact hown2)
    have hfw : FrB base w (w2.setCell ⟨b, 5, none⟩ (.slice A2 (p.sl.length + 1) c2)) := ((hfx.trans (.of_fr (((Fr.refl _ wx).alloc _).drew))).trans ⟨_, fun i hi => by
      cases hv : (Value.slice A5 p.sl.length c5).ownBlock with
      | none => rw [hv] at hi; cases hi
      | some k => rw [hv] at hi; rw [List.mem_singleton.1 hi]; exact (HVB.out k hv).2, Fr.of_grown hg2⟩).set HLOW.out.1 _
    clear hown2 hg2 hat2 hcv2 e2 hfz2 e4 e5 hfz n4 n5
    go_wp2
    refine bodyPost_ret (results_none rfl _ _ _) rfl ?_
    refine ⟨rfl, ?_, hfw⟩
    unfold beginS
    rw [← HX.out]
    exact ⟨_, _, _, _, _, hin⟩

/-- The least end behind now of the devices below k. -/
def NxtTo (p : St) (k : Nat) (r : Bool) (t : Nat) : Prop :=
  (r = false → t = 0 ∧ ∀ d, d < k → started p.sl d = true → endOf p.sl d ≤ p.now) ∧
  (r = true → (∃ d, d < k ∧ started p.sl d = true ∧ endOf p.sl d = t ∧ p.now < t) ∧ ∀ d, d < k → started p.sl d = true → p.now < endOf p.sl d → t ≤ endOf p.sl d)
theorem NxtTo.skip {p : St} {k : Nat} {r : Bool} {t : Nat} (h : NxtTo p k r t) (hs : started p.sl k = true → p.now < endOf p.sl k → r = true ∧ t ≤ endOf p.sl k) : NxtTo p (k + 1) r t := by
  refine ⟨fun hr => ⟨(h.1 hr).1, fun d hd hst => ?_⟩, fun hr => ⟨?_, fun d hd hst hl => ?_⟩⟩
  · by_cases e : d = k
    · subst e
      apply Classical.byContradiction
      intro hn
      have := (hs hst (by omega)).1
      rw [hr] at this
      cases this
    · exact (h.1 hr).2 d (by omega) hst
  · obtain ⟨d, h1, h2⟩ := (h.2 hr).1
    exact ⟨d, by omega, h2⟩
  · by_cases e : d = k
    · subst e
      exact (hs hst hl).2
    · exact (h.2 hr).2 d (by omega) hst hl
theorem NxtTo.take {p : St} {k : Nat} {r : Bool} {t : Nat} (h : NxtTo p k r t) (hst : started p.sl k = true) (hl : p.now < endOf p.sl k) (hb : r = true → endOf p.sl k ≤ t) : NxtTo p (k + 1) true (endOf p.sl k) := by
  refine ⟨(fun hr => by cases hr), fun _ => ⟨⟨k, by omega, hst, rfl, hl⟩, fun d hd hs hn => ?_⟩⟩
  by_cases e : d = k
  · rw [e]; exact Nat.le_refl _
  · cases r with
    | false =>
      have := (h.1 rfl).2 d (by omega) hs
      omega
    | true =>
      have h1 := (h.2 rfl).2 d (by omega) hs hn
      have h2 := hb rfl
      omega
theorem NxtTo.fin {N W : Nat} {L : List (Nat × Nat)} {D : Nat → Nat} {p : St} {r : Bool} {t : Nat} (hi : InvS N L D W p) (h : NxtTo p N r t) : nxt p = if r then some t else none := by
  cases r with
  | false =>
    simp only [Bool.false_eq_true, if_false]
    refine nxt_none.2 fun x hx => ?_
    have := (h.1 rfl).2 x.d (hi.lt x hx).1 (started_iff.2 ⟨x, hx, rfl⟩)
    rwa [endOf_mem hi.nodup hx] at this
  | true =>
    simp only [if_true]
    obtain ⟨⟨d, h1, h2, h3, h4⟩, h5⟩ := h.2 rfl
    obtain ⟨x, hx, e⟩ := started_iff.1 h2
    refine nxt_some.2 ⟨⟨x, hx, by rw [← endOf_mem hi.nodup hx, e]; exact h3, h4⟩, fun y hy hl => ?_⟩
    have := h5 y.d (hi.lt y hy).1 (started_iff.2 ⟨y, hy, rfl⟩)
    rw [endOf_mem hi.nodup hy] at this
    exact this hl
def AdvRel (w : World) (p : St) (N m : Nat) (v3 v4 i : Value) (wr : World) : Prop := ∃ (k : Nat) (r : Bool) (t : Nat), k ≤ N ∧ v3 = .bool r ∧ v4 = .int .u64 (t : Int) ∧ i = .int .i64 k ∧ NxtTo p k r t ∧ w = wr ∧ m = N - k
def AdvRet (w : World) (base b N W : Nat) (L : List (Nat × Nat)) (p : St) (e : Ending) (w' : World) : Prop :=
  match nxt p with
  | some t => e = .returned (.bool true) ∧ SchAt w' base b N W L ⟨p.sl, t⟩ ∧ FrB base w w'
  | none => e = .returned (.bool false) ∧ w = w'
set_option maxHeartbeats 2000000 in
theorem advance31_any {w : World} {base b N W : Nat} {L : List (Nat × Nat)} {D : Nat → Nat} {p : St} (h : SchAt w base b N W L p) (hi : InvS N L D W p) (hN : N ≤ 128) :
    Calls Try.prog 95 #[.pointer (some ⟨b, 0, none⟩)] w (AdvRet w base b N W L p) := by
  obtain ⟨g0, g1, g2, g3, v, h⟩ := h
  have c1 : w.cell? ⟨b, 1, none⟩ = some (.slice (some ⟨g1, 0, none⟩) N N) := h.blk.cell 1
  have c2 : w.cell? ⟨b, 2, none⟩ = some (.slice (some ⟨g2, 0, none⟩) N N) := h.blk.cell 2
  have c4 : w.cell? ⟨b, 4, none⟩ = some (.int .u64 (p.now : Int)) := h.blk.cell 4
  have f4 := h.blk.frozen 4
  have HH := hide h
  have HI := hide hi
  clear h hi
  go_enter Try.func95, Try.ntmps95
  go_wp2
  go_loopg [3, 4, 12] N (fun m v3 v4 i wr => AdvRel w p N m v3 v4 i wr)
  case atStart => exact ⟨0, false, 0, by omega, rfl, rfl, rfl, ⟨fun _ => ⟨rfl, fun d hd => by omega⟩, fun h => by cases h⟩, rfl, rfl⟩
  case round =>
    obtain ⟨k, r, t, hk, rfl, rfl, rfl, hnx, rfl, hmm⟩ := hrel
    have HM := hide hmm
    have HNX := hide hnx
    clear hmm hnx
    by_cases hlt : k < N
    · have hkl : (k : Int) < (N : Int) := by omega
      have d1 : w.cell? ⟨g1, k, none⟩ = some (.bool (started p.sl k)) := HH.out.st.cell hlt
      have d2 : w.cell? ⟨g2, k, none⟩ = some (.int .u64 (endOf p.sl k : Int)) := HH.out.en.cell hlt
      have SK := hide (HNX.out.skip)
      have TK := hide (HNX.out.take)
      generalize endOf p.sl k = e at d2 SK TK
      cases hs : started p.sl k with
      | false =>
        rw [hs] at d1 SK
        clear hs TK
        go_wp2
        go_roundg (N - (k + 1))
        case measure => rw [HM.out]; omega
        case rel => exact ⟨k + 1, r, t, by omega, rfl, rfl, by go_num, SK.out (fun h => by cases h), rfl, rfl⟩
      | true =>
        rw [hs] at d1 SK TK
        clear hs
        by_cases hl : p.now < e
        · have hl' : (p.now : Int) < (e : Int) := by omega
          cases r with
          | false =>
            go_wp2
            go_roundg (N - (k + 1))
            case measure => rw [HM.out]; omega
            case rel => exact ⟨k + 1, true, e, by omega, rfl, rfl, by go_num, TK.out (by simp) hl (fun h => by cases h), rfl, rfl⟩
          | true =>
            by_cases hl2 : e < t
            · have hl2' : (e : Int) < (t : Int) := by omega
              go_wp2
              go_roundg (N - (k + 1))
              case measure => rw [HM.out]; omega
              case rel => exact ⟨k + 1, true, e, by omega, rfl, rfl, by go_num, TK.out (by simp) hl (fun _ => by omega), rfl, rfl⟩
            · have hl2' : ¬ (e : Int) < (t : Int) := by omega
              go_wp2
              go_roundg (N - (k + 1))
              case measure => rw [HM.out]; omega
              case rel => exact ⟨k + 1, true, t, by omega, rfl, rfl, by go_num, SK.out (fun _ _ => ⟨by simp, by omega⟩), rfl, rfl⟩
        · have hl' : ¬ (p.now : Int) < (e : Int) := by omega
          clear TK
          go_wp2
          go_roundg (N - (k + 1))
          case measure => rw [HM.out]; omega
          case rel => exact ⟨k + 1, r, t, by omega, rfl, rfl, by go_num, SK.out (fun _ h => absurd h hl), rfl, rfl⟩
    · have hkl : ¬ (k : Int) < (N : Int) := by omega
      obtain rfl : k = N := by omega
      have hfin := NxtTo.fin HI.out HNX.out
      have HF := hide hfin
      clear hfin HNX
      cases r with
      | false =>
        go_wp2
        go_ret
        unfold AdvRet
        rw [HF.out]
        exact ⟨rfl, rfl⟩
      | true =>
        go_wp2
        go_ret
        unfold AdvRet
        rw [HF.out]
        exact ⟨rfl, ⟨_, _, _, _, _, HH.out.now_ t⟩, (FrB.refl _ _).set HH.out.low.1 _⟩
end Go.Proofs.Ytdocdgghphhdpaa

