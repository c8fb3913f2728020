/- A scheduler in memory. -/
import Derived.Test.YtdocdgghphhdpaaSchM2Mg
import Derived.Test.YtdocdgghphhdpaaMgResumeDrives9
import Derived.Test.YtdocdgghphhdpaaMgResumeDrives19
import Derived.WalkMore
namespace Go.Proofs.Ytdocdgghphhdpaa
open Go.RowKit

abbrev uv (n : Nat) : Value := .int .u64 (n : Int)
/-- The cells of a slot. -/
def scell (x : Slt) : List Value := [nv x.d, nv x.w, uv x.s, uv x.e]
def scells (l : List Slt) : List Value := l.flatMap scell
theorem scell_len (x : Slt) : (scell x).length = 4 := rfl
theorem scells_length (l : List Slt) : (scells l).length = l.length * 4 := flat_length scell_len l
theorem scells_snoc (l : List Slt) (x : Slt) : scells (l ++ [x]) = scells l ++ [nv x.d, nv x.w, uv x.s, uv x.e] := by simp [scells, scell]
theorem u64_info : (Try.prog.info? 33).map (fun i => (i.zero, i.size, i.bytes)) = some (some (.int .u64 0), 1, 8) := by kernel_rfl
theorem make_u64s (n c : Nat) (hnc : n ≤ c) (hc : c ≤ 1000000) (w : World) : (Instr.makeSlice 82 (.int .i64 (n : Int)) (.int .i64 (c : Int))).run Try.prog w = .ok (.slice (some ⟨w.heap.size, 0, none⟩) n c) (w.alloc (.cells (Array.replicate c (.int .u64 0)) 33)) :=
  run_make_one _ _ _ 8 Try.underlying82 u64_info rfl n c hnc (by omega) hc w
theorem slot_info : (Try.prog.info? 109).map (fun i => (i.zero, i.size, i.bytes)) = some (some (.agg #[.int .i64 0, .int .i64 0, .int .u64 0, .int .u64 0]), 4, 32) := by kernel_rfl

/-- The scheduler's block and its tables. -/
structure SchIn (w : World) (base b : Nat) (N W : Nat) (L : List (Nat × Nat)) (p : St) (g0 g1 g2 g3 : Nat) (v : Value) : Prop where
  blk : Blk w b 168 #[.slice (some ⟨g0, 0, none⟩) N N, .slice (some ⟨g1, 0, none⟩) N N, .slice (some ⟨g2, 0, none⟩) N N, .slice (some ⟨g3, 0, none⟩) W W, uv p.now, v]
  sup : ListsAt w base g0 (nbs false N L)
  st : FA w g1 4 bv N (started p.sl)
  en : FA w g2 33 uv N (endOf p.sl)
  bz : FA w g3 33 uv W (busyOf p.sl)
  sl : w.ownsRow base 109 4 v p.sl.length (scells p.sl)
  ne : g2 ≠ g3
  low : base ≤ b ∧ base ≤ g1 ∧ base ≤ g2 ∧ base ≤ g3
def SchAt (w : World) (base b : Nat) (N W : Nat) (L : List (Nat × Nat)) (p : St) : Prop := ∃ g0 g1 g2 g3 v, SchIn w base b N W L p g0 g1 g2 g3 v
theorem SchIn.fr0 {w w' : World} {base b N W : Nat} {L : List (Nat × Nat)} {p : St} {g0 g1 g2 g3 : Nat} {v : Value} (h : SchIn w base b N W L p g0 g1 g2 g3 v) (k : Fr [] w w') : SchIn w' base b N W L p g0 g1 g2 g3 v :=
  ⟨h.blk.fr k (by simp), h.sup.fr0 k, h.st.fr0 k, h.en.fr0 k, h.bz.fr0 k, own_fr h.sl k (fun _ _ => by simp), h.ne, h.low⟩
theorem SchAt.fr0 {w w' : World} {base b N W : Nat} {L : List (Nat × Nat)} {p : St} (h : SchAt w base b N W L p) (k : Fr [] w w') : SchAt w' base b N W L p := by
  obtain ⟨g0, g1, g2, g3, v, h⟩ := h
  exact ⟨g0, g1, g2, g3, v, h.fr0 k⟩
/-- Of the blocks below base none has turned. -/
def FrB (base : Nat) (w w' : World) : Prop := ∃ S : List Nat, (∀ i ∈ S, base ≤ i) ∧ Fr S w w'
theorem FrB.of_fr {base : Nat} {w w' : World} (h : Fr [] w w') : FrB base w w' := ⟨[], by simp, h⟩
theorem FrB.refl (base : Nat) (w : World) : FrB base w w := .of_fr (Fr.refl _ _)
theorem FrB.trans {base : Nat} {a w w' : World} (h : FrB base a w) (k : FrB base w w') : FrB base a w' := by
  obtain ⟨S, h1, h2⟩ := h
  obtain ⟨T, k1, k2⟩ := k
  refine ⟨S ++ T, fun i hi => (List.mem_append.1 hi).elim (h1 i) (k1 i), (h2.mono (fun i _ hi => List.mem_append_left _ hi)).trans (k2.mono (fun i _ hi => List.mem_append_right _ hi))⟩
theorem FrB.step {base : Nat} {a w w' : World} (h : Fr [] a w) (k : FrB base w w') (hb : a.heap.size ≤ base) : Fr [] a w' := by
  obtain ⟨T, k1, k2⟩ := k
  exact h.step k2 (fun i hi => .inr (Nat.le_trans hb (k1 i hi)))
theorem FrB.size {base : Nat} {w w' : World} (h : FrB base w w') : w.heap.size ≤ w'.heap.size := by
  obtain ⟨S, _, h⟩ := h
  exact h.size
theorem FrB.set {base : Nat} {a w : World} (h : FrB base a w) {p : Addr} (hp : base ≤ p.block) (u : Value) : FrB base a (w.setCell p u) :=
  h.trans ⟨[p.block], by simpa using hp, (Fr.refl _ _).set (.inl (by simp)) u⟩
theorem FrB.row {base : Nat} {w w' : World} (h : FrB base w w') {A : Option Addr} {xs : List Value} (hr : Row w A xs) (hlow : ∀ ad, A = some ad → ad.block < base) : Row w' A xs := by
  obtain ⟨S, h1, h2⟩ := h
  exact hr.fr h2 (fun ad e hm => by have := h1 _ hm; have := hlow ad e; omega)
theorem SchIn.begin_ {w w2 : World} {base b N W : Nat} {L : List (Nat × Nat)} {p : St} {g0 g1 g2 g3 : Nat} {v v2 : Value} (h : SchIn w base b N W L p g0 g1 g2 g3 v) {d wk e : Nat}
    (hf : Fr v.ownBlock.toList (((w.setCell ⟨g1, d, none⟩ (.bool true)).setCell ⟨g2, d, none⟩ (uv e)).setCell ⟨g3, wk, none⟩ (uv e)) w2)
    (hown : w2.ownsRow base 109 4 v2 (p.sl.length + 1) (scells (p.sl ++ [⟨d, wk, p.now, e⟩]))) : SchIn (w2.setCell ⟨b, 5, none⟩ v2) base b N W L ⟨p.sl ++ [⟨d, wk, p.now, e⟩], p.now⟩ g0 g1 g2 g3 v2 := by
  have b1 : b ≠ g1 := Blk.ne_ h.blk h.st (by decide)
  have b2 : b ≠ g2 := Blk.ne_ h.blk h.en (by decide)
  have b3 : b ≠ g3 := Blk.ne_ h.blk h.bz (by decide)
  have n12 : g1 ≠ g2 := Blk.ne_ h.st h.en (by decide)
  have n13 : g1 ≠ g3 := Blk.ne_ h.st h.bz (by decide)
  have hvb : ∀ k, v.ownBlock = some k → k ≠ b ∧ k ≠ g1 ∧ k ≠ g2 ∧ k ≠ g3 ∧ base ≤ k ∧ ∃ cs, Blk w k 109 cs := fun k hk => by
    obtain ⟨h1, _, cs, hb⟩ := own_block h.sl hk
    exact ⟨Blk.ne_ hb h.blk (by decide), Blk.ne_ hb h.st (by decide), Blk.ne_ hb h.en (by decide), Blk.ne_ hb h.bz (by decide), h1, cs, hb⟩
  have hw3 : Fr [g1, g2, g3] w (((w.setCell ⟨g1, d, none⟩ (.bool true)).setCell ⟨g2, d, none⟩ (uv e)).setCell ⟨g3, wk, none⟩ (uv e)) :=
    (((Fr.refl _ _).set (.inl (by simp)) _).set (.inl (by simp)) _).set (.inl (by simp)) _
  have hst3 := (((h.st.set_ d true).far (p := ⟨g2, d, none⟩) n12 (uv e)).far (p := ⟨g3, wk, none⟩) n13 (uv e))
  have hen3 := ((h.en.far (p := ⟨g1, d, none⟩) n12.symm (.bool true)).set_ d e).far (p := ⟨g3, wk, none⟩) h.ne (uv e)
  have hbz3 := ((h.bz.far (p := ⟨g1, d, none⟩) n13.symm (.bool true)).far (p := ⟨g2, d, none⟩) h.ne.symm (uv e)).set_ wk e
  have hblk3 := h.blk.fr hw3 (by simp [b1, b2, b3])
  have hls3 : ListsAt _ base g0 (nbs false N L) := h.sup.fr hw3 (fun g hg _ => by
    simp at hg
    rcases hg with rfl | rfl | rfl
    · exact ⟨_, _, h.st, by decide, by decide⟩
    · exact ⟨_, _, h.en, by decide, by decide⟩
    · exact ⟨_, _, h.bz, by decide, by decide⟩)
  have hvb3 : ∀ k, v.ownBlock = some k → ∃ cs, Blk (((w.setCell ⟨g1, d, none⟩ (.bool true)).setCell ⟨g2, d, none⟩ (uv e)).setCell ⟨g3, wk, none⟩ (uv e)) k 109 cs := fun k hk => by
    obtain ⟨_, k1, k2, k3, _, cs, hb⟩ := hvb k hk
    exact ⟨cs, hb.fr hw3 (by simp [k1, k2, k3])⟩
  generalize (((w.setCell ⟨g1, d, none⟩ (.bool true)).setCell ⟨g2, d, none⟩ (uv e)).setCell ⟨g3, wk, none⟩ (uv e)) = w3 at hf hst3 hen3 hbz3 hblk3 hls3 hvb3
  have hnot : ∀ g, (∀ k, v.ownBlock = some k → k ≠ g) → g ∉ v.ownBlock.toList := fun g hg hm => by
    cases hv : v.ownBlock with
    | none => rw [hv] at hm; cases hm
    | some k => rw [hv] at hm; exact hg k hv (List.mem_singleton.1 hm).symm
  have hst2 := hst3.fr hf (hnot g1 fun k hk => (hvb k hk).2.1)
  have hen2 := hen3.fr hf (hnot g2 fun k hk => (hvb k hk).2.2.1)
  have hbz2 := hbz3.fr hf (hnot g3 fun k hk => (hvb k hk).2.2.2.1)
  have hblk2 := hblk3.fr hf (hnot b fun k hk => (hvb k hk).1)
  have hls2 : ListsAt w2 base g0 (nbs false N L) := hls3.fr hf (fun g hg _ => by
    cases hv : v.ownBlock with
    | none => rw [hv] at hg; cases hg
    | some k =>
      rw [hv] at hg
      have := List.mem_singleton.1 hg
      subst this
      obtain ⟨cs, hb⟩ := hvb3 g hv
      exact ⟨_, cs, hb, by decide, by decide⟩)
  have hb5 : Fr [b] w2 (w2.setCell ⟨b, 5, none⟩ v2) := (Fr.refl _ _).set (.inl (by simp)) _
  refine ⟨hblk2.set_ 5 v2, hls2.fr hb5 (fun g hg _ => ?_), (hst2.far (p := ⟨b, 5, none⟩) b1.symm v2).congr (fun i _ => (started_snoc p.sl ⟨d, wk, p.now, e⟩ i).symm), (hen2.far (p := ⟨b, 5, none⟩) b2.symm v2).congr (fun i _ => (endOf_snoc p.sl ⟨d, wk, p.now, e⟩ i).symm), (hbz2.far (p := ⟨b, 5, none⟩) b3.symm v2).congr (fun i _ => (busyOf_snoc p.sl ⟨d, wk, p.now, e⟩ i).symm), ?_, h.ne, h.low⟩
  · rw [List.mem_singleton.1 hg]
    exact ⟨_, _, hblk2, by decide, by decide⟩
  · have := own_fr hown hb5 (fun k hk hm => by
      obtain ⟨_, _, cs, hb⟩ := own_block hown hk
      exact Blk.ne_ hb hblk2 (by decide) (List.mem_singleton.1 hm))
    simpa using this
theorem SchIn.now_ {w : World} {base b N W : Nat} {L : List (Nat × Nat)} {p : St} {g0 g1 g2 g3 : Nat} {v : Value} (h : SchIn w base b N W L p g0 g1 g2 g3 v) (t : Nat) : SchIn (w.setCell ⟨b, 4, none⟩ (uv t)) base b N W L ⟨p.sl, t⟩ g0 g1 g2 g3 v := by
  have b1 : b ≠ g1 := Blk.ne_ h.blk h.st (by decide)
  have b2 : b ≠ g2 := Blk.ne_ h.blk h.en (by decide)
  have b3 : b ≠ g3 := Blk.ne_ h.blk h.bz (by decide)
  have hb5 : Fr [b] w (w.setCell ⟨b, 4, none⟩ (uv t)) := (Fr.refl _ _).set (.inl (by simp)) _
  refine ⟨h.blk.set_ 4 (uv t), h.sup.fr hb5 (fun g hg _ => ?_), h.st.far (p := ⟨b, 4, none⟩) b1.symm _, h.en.far (p := ⟨b, 4, none⟩) b2.symm _, h.bz.far (p := ⟨b, 4, none⟩) b3.symm _, own_fr h.sl hb5 (fun k hk hm => ?_), h.ne, h.low⟩
  · rw [List.mem_singleton.1 hg]
    exact ⟨_, _, h.blk, by decide, by decide⟩
  · obtain ⟨_, _, cs, hb⟩ := own_block h.sl hk
    exact Blk.ne_ hb h.blk (by decide) (List.mem_singleton.1 hm)
end Go.Proofs.Ytdocdgghphhdpaa

/- Walks: the scheduler's methods ended, free, ready. -/
namespace Go.Proofs.Ytdocdgghphhdpaa
open Go.RowKit

set_option maxHeartbeats 1000000 in
theorem ended31_any {w : World} {base b N W : Nat} {L : List (Nat × Nat)} {D : Nat → Nat} {p : St} (h : SchAt w base b N W L p) (hi : InvS N L D W p) {d : Nat} (hd : d < N) :
    Calls Try.prog 123 #[.pointer (some ⟨b, 0, none⟩), nv d] w fun e w' => e = .returned (.bool (endedB p.sl p.now d)) ∧ Fr [] w w' := by
  obtain ⟨g0, g1, g2, g3, v, h⟩ := h
  have c1 : w.cell? ⟨b, 1, none⟩ = some (.slice (some ⟨g1, 0, none⟩) N N) := h.blk.cell 1
  have c2 : w.cell? ⟨b, 2, none⟩ = some (.slice (some ⟨g2, 0, none⟩) N N) := h.blk.cell 2
  have c4 : w.cell? ⟨b, 4, none⟩ = some (.int .u64 (p.now : Int)) := h.blk.cell 4
  have d1 : w.cell? ⟨g1, d, none⟩ = some (.bool (started p.sl d)) := h.st.cell hd
  have d2 : w.cell? ⟨g2, d, none⟩ = some (.int .u64 (endOf p.sl d : Int)) := h.en.cell hd
  have k1 : (d : Int) < (N : Int) := by omega
  rw [hi.ended d]
  clear h hi
  generalize endOf p.sl d = t at d2 ⊢
  generalize p.now = now at c4 ⊢
  cases hs : started p.sl d with
  | false =>
    rw [hs] at d1
    clear hs
    go_enter Try.func123, Try.ntmps123
    go_wp2
    go_quiet (fail)
    go_wp2
    go_ret
    exact ⟨rfl, (Fr.refl _ _).drewN _⟩
  | true =>
    rw [hs] at d1
    clear hs
    go_enter Try.func123, Try.ntmps123
    go_wp2
    go_quiet (fail)
    go_wp2
    go_ret
    exact ⟨ret_bool (by simp), (Fr.refl _ _).drewN _⟩

/-- An index, or -1. -/
def optI (o : Option Nat) : Int := match o with | some n => (n : Int) | none => -1
def FreRel (w : World) (p : St) (W m : Nat) (i : Value) (wr : World) : Prop := ∃ k : Nat, k ≤ W ∧ i = .int .i64 k ∧ (∀ u, u < k → freB p u = false) ∧ Fr [] w wr ∧ m = W - k
set_option maxHeartbeats 1000000 in
theorem free31_any {w : World} {base b N W : Nat} {L : List (Nat × Nat)} {D : Nat → Nat} {p : St} (h : SchAt w base b N W L p) (hi : InvS N L D W p) (hW : W ≤ 16) :
    Calls Try.prog 93 #[.pointer (some ⟨b, 0, none⟩)] w fun e w' => e = .returned (.int .i64 (optI (fre W p))) ∧ Fr [] w w' := by
  obtain ⟨g0, g1, g2, g3, v, h⟩ := h
  have c3 : w.cell? ⟨b, 3, none⟩ = some (.slice (some ⟨g3, 0, none⟩) W W) := h.blk.cell 3
  have c4 : w.cell? ⟨b, 4, none⟩ = some (uv p.now) := h.blk.cell 4
  have HB := hide h.bz
  have HF := hide hi.free
  clear h hi
  have C3 := hide c3
  have C4 := hide c4
  go_enter Try.func93, Try.ntmps93
  go_wp2
  clear c3 c4
  go_loopg [10] W (fun m i wr => FreRel w p W m i wr)
  case atStart => exact ⟨0, by omega, rfl, fun u hu => by omega, Fr.refl _ _, rfl⟩
  case round =>
    obtain ⟨k, hk, rfl, hno, hfr, hmm⟩ := hrel
    have HM := hide hmm
    have HNO := hide hno
    clear hmm hno
    by_cases hlt : k < W
    · have hkl : (k : Int) < (W : Int) := by omega
      have c4 := hfr.cell C4.out (by simp)
      have d1 := (HB.out.fr0 hfr).cell hlt
      have hfk := HF.out k
      generalize busyOf p.sl k = t at d1 hfk
      by_cases hle : t ≤ p.now
      · rw [decide_eq_true hle] at hfk
        have hle' : (t : Int) ≤ (p.now : Int) := by omega
        have HFK := hide hfk
        clear hfk hle
        go_wp2
        go_ret
        refine ⟨ret_int ?_, hfr⟩
        rw [fre_some.2 ⟨hlt, HFK.out, HNO.out⟩]
        rfl
      · rw [decide_eq_false hle] at hfk
        have hle' : ¬ (t : Int) ≤ (p.now : Int) := by omega
        have HFK := hide hfk
        clear hfk hle
        go_wp2
        go_roundg (W - (k + 1))
        case measure => rw [HM.out]; omega
        case rel =>
          refine ⟨k + 1, by omega, by go_num, fun u hu => ?_, hfr, rfl⟩
          by_cases e : u = k
          · rw [e]; exact HFK.out
          · exact HNO.out u (by omega)
    · have hkl : ¬ (k : Int) < (W : Int) := by omega
      go_wp2
      go_ret
      refine ⟨ret_int ?_, hfr⟩
      rw [fre_none.2 (fun u hu => HNO.out u (by omega))]
      rfl

def RdyRel (w : World) (p : St) (L : List (Nat × Nat)) (N m : Nat) (i : Value) (wr : World) : Prop := ∃ k : Nat, k ≤ N ∧ i = .int .i64 k ∧ (∀ u, u < k → rdyB L p u = false) ∧ Fr [] w wr ∧ m = N - k
def RdyRel2 (w : World) (p : St) (C : List Nat) (m : Nat) (i : Value) (wr : World) : Prop := ∃ j : Nat, j ≤ C.length ∧ i = .int .i64 j ∧ (∀ s ∈ C.take j, endedB p.sl p.now s = true) ∧ Fr [] w wr ∧ m = C.length - j
theorem rdyB_nb (L : List (Nat × Nat)) (p : St) (d : Nat) : rdyB L p d = true ↔ started p.sl d = false ∧ ∀ s ∈ nb false L d, endedB p.sl p.now s = true := by
  rw [rdyB_iff]
  refine and_congr ?_ ?_
  · rw [← Bool.not_eq_true, started_iff]
    exact ⟨fun h ⟨x, hx, e⟩ => h x hx e, fun h x hx e => h ⟨x, hx, e⟩⟩
  · constructor
    · exact fun h s hs => ended_iff.2 (h (d, s) (mem_nb.1 hs) rfl)
    · rintro h ⟨a, s⟩ hq rfl
      exact ended_iff.1 (h s (mem_nb.2 hq))
set_option maxHeartbeats 2000000 in
theorem ready31_any {w : World} {base b N W : Nat} {L : List (Nat × Nat)} {D : Nat → Nat} {p : St} (h : SchAt w base b N W L p) (hi : InvS N L D W p) (hN : N ≤ 128) (hL : ∀ q ∈ L, q.1 < N ∧ q.2 < N) (hll : L.length ≤ 1024) :
    Calls Try.prog 92 #[.pointer (some ⟨b, 0, none⟩)] w fun e w' => e = .returned (.int .i64 (optI (rdy N L p))) ∧ Fr [] w w' := by
  have HAT := hide h
  obtain ⟨g0, g1, g2, g3, v, h⟩ := h
  have c0 : w.cell? ⟨b, 0, none⟩ = some (.slice (some ⟨g0, 0, none⟩) N N) := h.blk.cell 0
  have c1 : w.cell? ⟨b, 1, none⟩ = some (.slice (some ⟨g1, 0, none⟩) N N) := h.blk.cell 1
  have HS := hide h.st
  have HLS := hide h.sup
  have HI := hide hi
  have HL := hide hL
  have C0 := hide c0
  clear h hi c0 hL
  go_enter Try.func92, Try.ntmps92
  go_wp2
  go_step3
  go_wp2
  go_step3
  go_wp2
  clear c1
  go_loopg [12] N (fun m i wr => RdyRel w p L N m i wr)
  case atStart => exact ⟨0, by omega, rfl, fun u hu => by omega, Fr.refl _ _, rfl⟩
  case round =>
    obtain ⟨k, hk, rfl, hno, hfr, hmm⟩ := hrel
    have HM := hide hmm
    have HNO := hide hno
    clear hmm hno
    by_cases hlt : k < N
    · have hkl : (k : Int) < (N : Int) := by omega
      have c0 := hfr.cell C0.out (by simp)
      have d1 := (HS.out.fr0 hfr).cell hlt
      have hrb := rdyB_nb L p k
      cases hs : started p.sl k with
      | true =>
        rw [hs] at d1 hrb
        have hfk : rdyB L p k = false := by
          rw [← Bool.not_eq_true, hrb]
          exact fun h => by cases h.1
        have HFK := hide hfk
        clear hrb hfk hs c0
        go_wp2
        go_roundg (N - (k + 1))
        case measure => rw [HM.out]; omega
        case rel =>
          refine ⟨k + 1, by omega, by go_num, fun u hu => ?_, hfr, rfl⟩
          by_cases e : u = k
          · rw [e]; exact HFK.out
          · exact HNO.out u (by omega)
      | false =>
        rw [hs] at d1 hrb
        have hnl := nb_length_le false L k
        obtain ⟨v2, hcv, -, hown, -, -⟩ := (HLS.out.fr0 hfr).at_ (nbs_get false L hlt)
        obtain ⟨A2, c2, rfl, -, hrow, -⟩ := own_slice hown
        have HRB := hide hrb
        have HRW := hide hrow
        have hCN : ∀ s ∈ nb false L k, s < N := fun s hs => (HL.out _ (mem_nb.1 hs)).2
        have HCN := hide hCN
        clear hrb hown hrow hs hCN
        generalize nb false L k = C at hnl HRB HRW HCN hcv
        go_wp2
        clear hcv d1 c0
        go_loopg [26] C.length (fun m i wi => RdyRel2 wr p C m i wi)
        case atStart => exact ⟨0, by omega, rfl, by simp, Fr.refl _ _, rfl⟩
        case round =>
          rename_i wr0
          obtain ⟨j, hj, rfl, hall, hfr2, hmm⟩ := hrel
          have HM2 := hide hmm
          have HALL := hide hall
          clear hmm hall
          by_cases hlt2 : j < C.length
          · obtain ⟨s, hs⟩ : ∃ s, C[j]? = some s := ⟨_, List.getElem?_eq_getElem hlt2⟩
            obtain ⟨ob, oo, rfl, e1⟩ := (HRW.out.fr0 hfr2).at_ (i := j) (u := nv s) (by rw [List.getElem?_map, hs]; rfl)
            have hjl : (j : Int) < (C.length : Int) := by omega
            have hsN := HCN.out s (List.mem_of_getElem? hs)
            have HSS := hide hs
            clear hs
            go_wp2_with fail
            refine (ended31_any ((HAT.out.fr0 hfr).fr0 hfr2) HI.out hsN).mono ?_
            rintro e w3 ⟨rfl, hf3⟩
            cases hend : endedB p.sl p.now s with
            | true =>
              have HE := hide hend
              clear hend
              go_wp2
              go_roundg (C.length - (j + 1))
              case measure => rw [HM2.out]; omega
              case rel =>
                refine ⟨j + 1, by omega, by go_num, fun u hu => ?_, hfr2.call hf3, rfl⟩
                rw [take_succ_some HSS.out] at hu
                rcases List.mem_append.1 hu with h | h
                · exact HALL.out u h
                · rw [List.mem_singleton.1 h]; exact HE.out
            | false =>
              have hfk : rdyB L p k = false := by
                rw [← Bool.not_eq_true, HRB.out]
                intro h
                have := h.2 s (List.mem_of_getElem? HSS.out)
                rw [hend] at this
                cases this
              have HFK := hide hfk
              clear hend hfk
              go_wp2
              go_roundg (N - (k + 1))
              case measure => rw [HM.out]; omega
              case rel =>
                refine ⟨k + 1, by omega, by go_num, fun u hu => ?_, (hfr.call hfr2).call hf3, rfl⟩
                by_cases e : u = k
                · rw [e]; exact HFK.out
                · exact HNO.out u (by omega)
          · have hjl : ¬ (j : Int) < (C.length : Int) := by omega
            go_wp2
            first | (rw [Exit.noGoto_ret]; go_ret) | go_ret
            refine ⟨ret_int ?_, hfr.call hfr2⟩
            have hall := HALL.out
            rw [List.take_of_length_le (by omega)] at hall
            rw [rdy_some.2 ⟨hlt, HRB.out.2 ⟨by simp, hall⟩, HNO.out⟩]
            rfl
    · have hkl : ¬ (k : Int) < (N : Int) := by omega
      go_wp2
      first | (rw [Exit.noGoto_ret]; go_ret) | go_ret
      refine ⟨ret_int ?_, hfr⟩
      rw [rdy_none.2 (fun u hu => HNO.out u (by omega))]
      rfl
end Go.Proofs.Ytdocdgghphhdpaa

