/- Walks: the reference's Schedule. -/
import Derived.Test.YtinengemeppefaaSchR1Mg
namespace Go.Proofs.Ytinengemeppefaa
open Go.RowKit

/-- A cell of an owned row of one-cell elements, and the row with that cell set. -/
theorem own_cell {w : World} {base : Nat} {e : TypeId} {v : Value} {n : Nat} {xs : List Value} (h : w.ownsRow base e 1 v n xs) {d : Nat} (hd : d < n) :
    ∃ g cp, v = .slice (some ⟨g, 0, none⟩) n cp ∧ base ≤ g ∧ (∃ cs, Blk w g e cs) ∧ w.cell? ⟨g, d, none⟩ = xs[d]? ∧ w.frozen? ⟨g, d, none⟩ = false ∧ ∀ u, (w.setCell ⟨g, d, none⟩ u).ownsRow base e 1 v n (xs.set d u) := by
  rcases h.2 with ⟨h0, h1⟩ | ⟨g, cap, cur, hv, hb, hh, hnc, hcm, hcur, hx⟩
  · omega
  · have hblk : Blk w g e cur := hh
    refine ⟨g, cap, hv, hb, ⟨cur, hblk⟩, ?_, hblk.frozen d, fun u => ⟨by simpa using h.1, .inr ⟨g, cap, cur.setIfInBounds d u, hv, hb, hblk.set_ d u, hnc, hcm, by simpa using hcur, ?_⟩⟩⟩
    · rw [hblk.cell d, ← hx, List.getElem?_take, if_pos (by omega)]
      simp
    · rw [← hx, Array.toList_setIfInBounds, List.take_set]
theorem at_set {sl : List Slt} {x : Slt} (h : ∀ y ∈ sl, y.d ≠ x.d) (N : Nat) : (((List.range N).map (atOf sl)).map iv).set x.d (.int .i64 (sl.length : Int)) = ((List.range N).map (atOf (sl ++ [x]))).map iv := by
  apply List.ext_getElem?
  intro i
  rw [List.getElem?_set]
  by_cases hi : i < N
  · by_cases e : x.d = i
    · simp [hi, e, ← atOf_snoc h, atOf_snoc h i]
    · have e' : ¬ i = x.d := fun h' => e h'.symm
      simp [hi, e, atOf_snoc h i, e']
  · by_cases e : x.d = i
    · simp [hi, e]
    · simp [hi, e]
/-- The least end behind now of the first j slots, or 0. -/
def NxtR (p : St) (j t : Nat) : Prop := (t = 0 ∧ ∀ x ∈ p.sl.take j, x.e ≤ p.now) ∨ ((∃ x ∈ p.sl.take j, x.e = t) ∧ p.now < t ∧ ∀ x ∈ p.sl.take j, p.now < x.e → t ≤ x.e)
theorem NxtR.skip {p : St} {j t : Nat} {x : Slt} (h : NxtR p j t) (hx : p.sl[j]? = some x) (hs : p.now < x.e → p.now < t ∧ t ≤ x.e) : NxtR p (j + 1) t := by
  unfold NxtR
  rw [take_succ_some hx]
  rcases h with ⟨h1, h2⟩ | ⟨⟨y, hy, h1⟩, h2, h3⟩
  · refine .inl ⟨h1, fun z hz => ?_⟩
    rcases List.mem_append.1 hz with hz | hz
    · exact h2 z hz
    · rw [List.mem_singleton.1 hz]
      apply Classical.byContradiction
      intro hn
      have := hs (by omega)
      omega
  · refine .inr ⟨⟨y, List.mem_append_left _ hy, h1⟩, h2, fun z hz hl => ?_⟩
    rcases List.mem_append.1 hz with hz | hz
    · exact h3 z hz hl
    · rw [List.mem_singleton.1 hz] at hl ⊢
      exact (hs hl).2
theorem NxtR.take {p : St} {j t : Nat} {x : Slt} (h : NxtR p j t) (hx : p.sl[j]? = some x) (hl : p.now < x.e) (hb : t = 0 ∨ x.e < t) : NxtR p (j + 1) x.e := by
  unfold NxtR
  rw [take_succ_some hx]
  refine .inr ⟨⟨x, by simp, rfl⟩, hl, fun z hz hn => ?_⟩
  rcases List.mem_append.1 hz with hz | hz
  · rcases h with ⟨h1, h2⟩ | ⟨_, h2, h3⟩
    · have := h2 z hz; omega
    · have := h3 z hz hn; omega
  · rw [List.mem_singleton.1 hz]; omega
theorem NxtR.fin {p : St} {j t : Nat} (h : NxtR p j t) (hj : p.sl.length ≤ j) : nxt p = if t = 0 then none else some t := by
  unfold NxtR at h
  rw [List.take_of_length_le hj] at h
  rcases h with ⟨h1, h2⟩ | ⟨⟨y, hy, h1⟩, h2, h3⟩
  · rw [if_pos h1]
    exact nxt_none.2 h2
  · rw [if_neg (by omega)]
    exact nxt_some.2 ⟨⟨y, hy, h1, h2⟩, h3⟩
def PiRel (w1 : World) (base b : Nat) (Al : Option Addr) (cl : Nat) (L : List (Nat × Nat)) (N m : Nat) (i : Value) (wr : World) : Prop := ∃ k : Nat, k ≤ N ∧ i = .int .i64 k ∧ PlanAt wr base b k Al cl L ⟨[], 0⟩ ∧ FrB base w1 wr ∧ m = N - k
def RsRel (w : World) (base b N W : Nat) (Al : Option Addr) (cl : Nat) (L : List (Nat × Nat)) (D : Nat → Nat) (m : Nat) (wr : World) : Prop :=
  ∃ p, RchS N L D W p ∧ PlanAt wr base b N Al cl L p ∧ FrB base w wr ∧ m = measS N p
def RnRel (w : World) (p : St) (m : Nat) (v i : Value) (wr : World) : Prop := ∃ j t : Nat, j ≤ p.sl.length ∧ v = .int .u64 (t : Int) ∧ i = .int .i64 j ∧ NxtR p j t ∧ w = wr ∧ m = p.sl.length - j
theorem PlanIn.grow {w w2 : World} {base b k : Nat} {Al : Option Addr} {cl : Nat} {L : List (Nat × Nat)} {v va va2 : Value} (h : PlanIn w base b k Al cl L ⟨[], 0⟩ v va) (hf : Fr va.ownBlock.toList w w2)
    (hown : w2.ownsRow base 3 1 va2 (k + 1) (((List.range k).map (atOf [])).map iv ++ [.int .i64 (-1)])) (hlow : ∀ ad, Al = some ad → 0 < L.length → ad.block < base) : PlanIn (w2.setCell ⟨b, 2, none⟩ va2) base b (k + 1) Al cl L ⟨[], 0⟩ v va2 := by
  have hvb : ∀ g, va.ownBlock = some g → g ≠ b ∧ base ≤ g := fun g hg => by
    obtain ⟨h1, _, cs, hb⟩ := own_block h.at_ hg
    exact ⟨Blk.ne_ hb h.blk (by decide), h1⟩
  have hnot : ∀ g, (∀ k, va.ownBlock = some k → k ≠ g) → g ∉ va.ownBlock.toList := fun g hg hm => by
    cases hv : va.ownBlock with
    | none => rw [hv] at hm; cases hm
    | some k => rw [hv] at hm; exact hg k hv (List.mem_singleton.1 hm).symm
  have hblk2 := h.blk.fr hf (hnot b fun k hk => (hvb k hk).1)
  have hb5 : Fr [b] w2 (w2.setCell ⟨b, 2, none⟩ va2) := (Fr.refl _ _).set (.inl (by simp)) _
  have hrow2 : Row w2 Al (pcs (ofNs L)) := fun h0 => by
    have hl : 0 < L.length := by
      rw [pcs_length, ofNs_length] at h0
      omega
    exact (h.row.fr hf (fun ad e hm => by
      cases hv : va.ownBlock with
      | none => rw [hv] at hm; cases hm
      | some k =>
        rw [hv] at hm
        have h1 := List.mem_singleton.1 hm
        have h2 := (hvb k hv).2
        have h3 := hlow ad e hl
        omega)) h0
  refine ⟨hblk2.set_ 2 va2, fun h0 => ?_, ?_, ?_, h.low⟩
  · have hl : 0 < L.length := by
      rw [pcs_length, ofNs_length] at h0
      omega
    exact (hrow2.fr hb5 (fun ad e hm => by
      have h1 := List.mem_singleton.1 hm
      have h3 := hlow ad e hl
      have h4 := h.low
      omega)) h0
  · have h1 := own_fr hown hb5 (fun g hg hm => by
      obtain ⟨_, _, cs, hb⟩ := own_block hown hg
      exact Blk.ne_ hb hblk2 (by decide) (List.mem_singleton.1 hm))
    rw [List.range_succ, List.map_append, List.map_append]
    exact h1
  · refine own_fr (own_fr h.sl hf (fun g hg hm => ?_)) hb5 (fun g hg hm => ?_)
    · obtain ⟨_, _, cs, hb⟩ := own_block h.sl hg
      cases hv : va.ownBlock with
      | none => rw [hv] at hm; cases hm
      | some k =>
        rw [hv] at hm
        have h1 := List.mem_singleton.1 hm
        subst h1
        obtain ⟨_, _, cs', hb'⟩ := own_block h.at_ hv
        exact Blk.ne_ hb hb' (by decide) rfl
    · obtain ⟨_, _, cs, hb⟩ := own_block h.sl hg
      exact Blk.ne_ hb h.blk (by decide) (List.mem_singleton.1 hm)
theorem PlanIn.begin_ {w w2 : World} {base b N : Nat} {Al : Option Addr} {cl : Nat} {L : List (Nat × Nat)} {p : St} {v va v2 : Value} (h : PlanIn w base b N Al cl L p v va) {d wk e ga : Nat} (hfresh : ∀ y ∈ p.sl, y.d ≠ d)
    (hga : base ≤ ga ∧ ∃ cs, Blk w ga 3 cs) (hat : (w.setCell ⟨ga, d, none⟩ (.int .i64 (p.sl.length : Int))).ownsRow base 3 1 va N ((((List.range N).map (atOf p.sl)).map iv).set d (.int .i64 (p.sl.length : Int))))
    (hf : Fr v.ownBlock.toList (w.setCell ⟨ga, d, none⟩ (.int .i64 (p.sl.length : Int))) w2) (hown : w2.ownsRow base 38 4 v2 (p.sl.length + 1) (scells (p.sl ++ [⟨d, wk, p.now, e⟩])))
    (hlow : ∀ ad, Al = some ad → 0 < L.length → ad.block < base) : PlanIn (w2.setCell ⟨b, 1, none⟩ v2) base b N Al cl L ⟨p.sl ++ [⟨d, wk, p.now, e⟩], p.now⟩ v2 va := by
  obtain ⟨hgb, cg, hgblk⟩ := hga
  have hbga : b ≠ ga := fun e => Blk.ne_ hgblk h.blk (by decide) e.symm
  have hblkA : Blk (w.setCell ⟨ga, d, none⟩ (.int .i64 (p.sl.length : Int))) b _ _ := h.blk.far (p := ⟨ga, d, none⟩) hbga _
  have hfA : Fr [ga] w (w.setCell ⟨ga, d, none⟩ (.int .i64 (p.sl.length : Int))) := (Fr.refl _ _).set (.inl (by simp)) _
  have hvb : ∀ g, v.ownBlock = some g → base ≤ g ∧ g ≠ b ∧ ∃ cs, Blk (w.setCell ⟨ga, d, none⟩ (.int .i64 (p.sl.length : Int))) g 38 cs := fun g hg => by
    obtain ⟨h1, _, cs, hb⟩ := own_block h.sl hg
    exact ⟨h1, Blk.ne_ hb h.blk (by decide), cs, hb.fr hfA (fun hm => Blk.ne_ hb hgblk (by decide) (List.mem_singleton.1 hm))⟩
  have hrowA : 0 < L.length → Row (w.setCell ⟨ga, d, none⟩ (.int .i64 (p.sl.length : Int))) Al (pcs (ofNs L)) := fun hl => h.row.fr hfA (fun ad e hm => by
    have h1 := List.mem_singleton.1 hm
    have h3 := hlow ad e hl
    omega)
  generalize (w.setCell ⟨ga, d, none⟩ (.int .i64 (p.sl.length : Int))) = wA at hat hf hblkA hvb hrowA
  have hnot : ∀ g, (∀ k, v.ownBlock = some k → k ≠ g) → g ∉ v.ownBlock.toList := fun g hg hm => by
    cases hv : v.ownBlock with
    | none => rw [hv] at hm; cases hm
    | some k => rw [hv] at hm; exact hg k hv (List.mem_singleton.1 hm).symm
  have hblk2 := hblkA.fr hf (hnot b fun k hk => (hvb k hk).2.1)
  have hb5 : Fr [b] w2 (w2.setCell ⟨b, 1, none⟩ v2) := (Fr.refl _ _).set (.inl (by simp)) _
  refine ⟨hblk2.set_ 1 v2, fun h0 => ?_, ?_, ?_, h.low⟩
  · have hl : 0 < L.length := by
      rw [pcs_length, ofNs_length] at h0
      omega
    refine (((hrowA hl).fr hf (fun ad e hm => ?_)).fr hb5 (fun ad e hm => ?_)) h0
    · cases hv : v.ownBlock with
      | none => rw [hv] at hm; cases hm
      | some k =>
        rw [hv] at hm
        have h1 := List.mem_singleton.1 hm
        have h2 := (hvb k hv).1
        have h3 := hlow ad e hl
        omega
    · have h1 := List.mem_singleton.1 hm
      have h3 := hlow ad e hl
      have h4 := h.low
      omega
  · have h1 := at_set (x := ⟨d, wk, p.now, e⟩) hfresh N
    simp only at h1 ⊢
    rw [← h1]
    refine own_fr (own_fr hat hf (fun g hg hm => ?_)) hb5 (fun g hg hm => ?_)
    · obtain ⟨_, _, cs, hb⟩ := own_block hat hg
      cases hv : v.ownBlock with
      | none => rw [hv] at hm; cases hm
      | some k =>
        rw [hv] at hm
        have h1 := List.mem_singleton.1 hm
        subst h1
        obtain ⟨_, _, cs', hb'⟩ := hvb g hv
        exact Blk.ne_ hb hb' (by decide) rfl
    · obtain ⟨_, _, cs, hb⟩ := own_block hat hg
      exact Blk.ne_ hb hblkA (by decide) (List.mem_singleton.1 hm)
  · have := own_fr hown hb5 (fun g hg hm => by
      obtain ⟨_, _, cs, hb⟩ := own_block hown hg
      exact Blk.ne_ hb hblk2 (by decide) (List.mem_singleton.1 hm))
    simpa using this
theorem PlanIn.now_ {w : World} {base b N : Nat} {Al : Option Addr} {cl : Nat} {L : List (Nat × Nat)} {p : St} {v va : Value} (h : PlanIn w base b N Al cl L p v va) (hlow : ∀ ad, Al = some ad → 0 < L.length → ad.block < base) (t : Nat) : PlanIn (w.setCell ⟨b, 3, none⟩ (uv t)) base b N Al cl L ⟨p.sl, t⟩ v va := by
  have hb5 : Fr [b] w (w.setCell ⟨b, 3, none⟩ (uv t)) := (Fr.refl _ _).set (.inl (by simp)) _
  refine ⟨h.blk.set_ 3 (uv t), fun h0 => ?_, own_fr h.at_ hb5 (fun g hg hm => ?_), own_fr h.sl hb5 (fun g hg hm => ?_), h.low⟩
  · have hl : 0 < L.length := by
      rw [pcs_length, ofNs_length] at h0
      omega
    exact (h.row.fr hb5 (fun ad e hm => by
      have h1 := List.mem_singleton.1 hm
      have h3 := hlow ad e hl
      have h4 := h.low
      omega)) h0
  · obtain ⟨_, _, cs, hb⟩ := own_block h.at_ hg
    exact Blk.ne_ hb h.blk (by decide) (List.mem_singleton.1 hm)
  · obtain ⟨_, _, cs, hb⟩ := own_block h.sl hg
    exact Blk.ne_ hb h.blk (by decide) (List.mem_singleton.1 hm)
end Go.Proofs.Ytinengemeppefaa

