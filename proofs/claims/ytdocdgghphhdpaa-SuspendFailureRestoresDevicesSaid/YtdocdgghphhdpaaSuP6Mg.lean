/- Plain: a device tree driven by a sequence whose way down may fail. -/
import Derived.Test.YtdocdgghphhdpaaSuP5Mg
import Derived.Test.YtdocdgghphhdpaaMgSuspFail14
namespace Go.Proofs.Ytdocdgghphhdpaa
open Go.RowKit

theorem pick_id {n : Nat} {L : List (Nat × Nat)} (hL : ∀ p ∈ L, p.2 < p.1) {k : Nat} (hk : k < n) : pick n L (List.range k) = some k :=
  pick_some.2 ⟨hk, ⟨by simp, fun p hp e => List.mem_range.2 (by have := hL p hp; omega)⟩, fun u hu hr => hr.1 (List.mem_range.2 hu)⟩
theorem greedyF_id {n : Nat} {L : List (Nat × Nat)} (hL : ∀ p ∈ L, p.2 < p.1) : ∀ (f k : Nat), f + k = n → greedyF n L f (List.range k) = List.range n
  | 0, k, h => by rw [greedyF, show k = n by omega]
  | f + 1, k, h => by
    rw [greedyF, pick_id hL (by omega)]
    simp only
    rw [← List.range_succ]
    exact greedyF_id hL f (k + 1) (by omega)
theorem greedy_id {n : Nat} {L : List (Nat × Nat)} (hL : ∀ p ∈ L, p.2 < p.1) : greedy n L = List.range n := greedyF_id hL n 0 (by omega)
/-- The links from children to parents. -/
def parR (C : TC) : Nat → RailD := fun i => ⟨C.par i, 0, 0⟩
theorem par_order {C : TC} (hC : TOk C) : orderM (C.nd : Int) (rlLinks (parR C) C.nd) = (List.range C.nd, 0) := by
  have hmem : ∀ p ∈ rlN (parR C) C.nd, p.1 < C.nd ∧ p.2 < C.nd ∧ p.2 < p.1 := fun p hp => by
    obtain ⟨a, b⟩ := rlN_mem hp
    have h2 : C.par p.1 = (p.2 : Int) := b
    have := hC.par p.1 a
    exact ⟨a, by omega, by omega⟩
  have hg := greedy_id (n := C.nd) (fun p hp => (hmem p hp).2.2)
  have hl := rlLinks_len (parR C) C.nd
  have hn := hC.nd64
  have hb : basicM (C.nd : Int) (rlLinks (parR C) C.nd) = 0 := by
    rw [rlN_of]
    refine basicM_ok ⟨by omega, by omega, by rw [← rlN_of]; omega, fun p hp => ?_⟩ ?_
    · obtain ⟨q, hq, rfl⟩ := List.mem_map.1 hp
      have := hmem q hq
      unfold LinkOk ofN
      simp only
      omega
    · unfold ofNs List.Nodup
      rw [List.pairwise_map]
      exact List.Pairwise.imp (fun hne e => hne (ofN_inj e)) (rlN_nodup (parR C) C.nd)
  rw [rlN_of] at hb ⊢
  rw [orderM_ok hb (by rw [toNs_ofNs, hg, List.length_range]), toNs_ofNs, hg]
/-- The resumes of phase 7 stand parents first. -/
def Asc7 (L : List (Nat × Nat)) : Prop := L.Pairwise fun x y => x.1 = 7 → y.1 = 7 → x.2 < y.2
theorem row_ph {n : Nat} {G : List (Nat × Nat)} (hg : G.Nodup) {p : Nat} : ∀ x ∈ undoRow (List.range n) G p, x.1 = 9 - p ∧ x.2 < n := fun x hx => by
  obtain ⟨h1, ⟨i, hi, h2⟩, _⟩ := (mem_undoRow hg).1 hx
  rw [List.length_range] at hi
  refine ⟨h1, ?_⟩
  rw [h2, List.getD_eq_getElem?_getD]
  split
  · rw [List.length_range, List.getElem?_range (by omega)]
    show n - 1 - i < n
    omega
  · rw [List.getElem?_range hi]
    exact hi
theorem asc_off {n : Nat} {G : List (Nat × Nat)} (hg : G.Nodup) {p : Nat} (hp : 9 - p ≠ 7) : Asc7 (undoRow (List.range n) G p) := by
  unfold Asc7
  refine List.Pairwise.imp_of_mem (R := fun _ _ => True) (fun hx _ _ h7 => absurd h7 (by rw [(row_ph hg _ hx).1]; exact hp)) ?_
  exact List.pairwise_of_forall (fun _ _ => trivial)
theorem asc_row2 {n : Nat} {G : List (Nat × Nat)} (hg : G.Nodup) : Asc7 (undoRow (List.range n) G 2) := by
  unfold Asc7 undoRow phaseL
  rw [List.pairwise_flatMap]
  refine ⟨fun a _ => ?_, ?_⟩
  · rw [hits_one hg]
    split
    · exact List.pairwise_singleton _ _
    · exact List.Pairwise.nil
  · rw [List.pairwise_map, List.length_range]
    refine List.Pairwise.imp_of_mem (R := fun a b => a < b) (fun {a b} ha hb hlt x hx y hy _ _ => ?_) List.pairwise_lt_range
    have h1 := (mem_hits hg).1 hx
    have h2 := (mem_hits hg).1 hy
    have ha' := List.mem_range.1 ha
    have hb' := List.mem_range.1 hb
    rw [h1.2, h2.2]
    simp only [List.getD_eq_getElem?_getD]
    simp only [show ((2 : Nat) == 1) = false from rfl, Bool.false_eq_true, if_false, List.getElem?_range ha', List.getElem?_range hb']
    exact hlt
theorem asc_plan {n : Nat} {G : List (Nat × Nat)} (hg : G.Nodup) : Asc7 (undoPlan (List.range n) G) := by
  have hc : ∀ {p q : Nat} {x y : Nat × Nat}, x ∈ undoRow (List.range n) G p → y ∈ undoRow (List.range n) G q → (9 - p ≠ 7 ∨ 9 - q ≠ 7) → x.1 = 7 → y.1 = 7 → x.2 < y.2 := fun hx hy hpq h1 h2 => by
    have e1 := (row_ph hg _ hx).1
    have e2 := (row_ph hg _ hy).1
    omega
  unfold undoPlan Asc7
  rw [List.pairwise_append, List.pairwise_append, List.pairwise_append]
  refine ⟨asc_off hg (by decide), ⟨asc_off hg (by decide), ⟨asc_row2 hg, asc_off hg (by decide), fun x hx y hy => hc hx hy (.inr (by decide))⟩, fun x hx y hy => hc (p := 3) (q := 3) hx hx (.inl (by decide)) |> fun _ h1 h2 => ?_⟩, fun x hx y hy h1 h2 => ?_⟩
  · have e1 := (row_ph hg _ hx).1
    omega
  · have e1 := (row_ph hg _ hx).1
    omega
def SfMode (n i : Nat) (S : Seq) (st : Nat → Nat) : Prop :=
  (i ≤ 4 * n ∧ Dn S (List.range n) i ∧ ∀ p, p < n → st p = if (2, p) ∈ goodK (List.range n) i then 4 else 0) ∨
  (∃ L c, Un S L c ∧ L.length + i ≤ 8 * n ∧ Asc7 L ∧ (∀ x ∈ L, 5 ≤ x.1 ∧ x.2 < n) ∧ ∀ p, p < n → st p = if (7, p) ∈ L then 4 else 0)
section
variable {C : TC} {n i k : Nat} {S : Seq} {s : TSt} {st : Nat → Nat} {L : List (Nat × Nat)} {x : Nat × Nat} {c : Int}
theorem okOrd_id (h : n ≤ 64) : OkOrd (List.range n) := ⟨by rw [List.length_range]; exact h, fun d hd => by rw [List.length_range]; exact List.mem_range.1 hd⟩
/-- What stands behind the failure at k, or behind the waking. -/
theorem mode_undo (hn : n ≤ 64) (hk : k ≤ 4 * n) (hi : k + i ≤ 8 * n) (hu : Un S (undoPlan (List.range n) (goodK (List.range n) k)) c) (hst : ∀ p, p < n → st p = if (2, p) ∈ goodK (List.range n) k then 4 else 0) : SfMode n i S st := by
  have ho := okOrd_id hn
  have hg := goodK_nodup List.nodup_range ho k
  refine .inr ⟨_, c, hu, ?_, asc_plan hg, fun x hx => ?_, fun p hp => ?_⟩
  · rw [undo_length List.nodup_range ho, goodK_length (by rw [List.length_range]; exact hk)]
    exact hi
  · obtain ⟨y, hy, rfl⟩ := List.mem_map.1 ((mem_undoPlan List.nodup_range ho).1 hx)
    have := mem_goodK ho hy
    refine ⟨by show 5 ≤ 9 - y.1; omega, List.mem_range.1 this.2.2⟩
  · have e : ((7, p) ∈ undoPlan (List.range n) (goodK (List.range n) k)) ↔ (2, p) ∈ goodK (List.range n) k := by
      rw [mem_undoPlan List.nodup_range ho, List.mem_map]
      constructor
      · rintro ⟨y, hy, e⟩
        have hm := mem_goodK ho hy
        injection e with e1 e2
        have : y = (2, p) := Prod.ext (by simp only; omega) e2
        rw [← this]
        exact hy
      · exact fun h => ⟨(2, p), h, rfl⟩
    rw [hst p hp]
    simp only [e]
theorem good_all (hn : n ≤ 64) {p : Nat} (hp : p < n) : (2, p) ∈ goodK (List.range n) (4 * n) := by
  unfold goodK
  rw [List.take_of_length_le (by simp [downL])]
  have h := mem_downL (ord := List.range n) (p := 2) (i := n - 1 - p) (by omega) (by omega) (by rw [List.length_range]; omega)
  rw [devAt_id (by omega)] at h
  rw [show (if rev 2 = true then n - 1 - (n - 1 - p) else n - 1 - p) = p by rw [if_pos (by decide)]; omega] at h
  exact h
/-- A device goes into D3Cold on the way down. -/
theorem sf_off (hC : TOk C) (hinv : TInv C s) (hclk : s.clk ≤ i) (hnd : C.nd ≤ 6) (hi : i < 4 * C.nd) (hst : ∀ p, p < C.nd → s.st p = if (2, p) ∈ goodK (List.range C.nd) i then 4 else 0) (hph : (opAt (List.range C.nd) i).1 = 2) :
    (opAt (List.range C.nd) i).2 < C.nd ∧ (setM C i ((opAt (List.range C.nd) i).2 : Int) 4 s).2.2 = 0 ∧ TInv C (setM C i ((opAt (List.range C.nd) i).2 : Int) 4 s).1 ∧ (setM C i ((opAt (List.range C.nd) i).2 : Int) 4 s).1.clk ≤ i ∧
    ∀ p, p < C.nd → (setM C i ((opAt (List.range C.nd) i).2 : Int) 4 s).1.st p = if (2, p) ∈ goodK (List.range C.nd) (i + 1) then 4 else 0 := by
  have hn0 : 0 < C.nd := by omega
  have hm := Nat.mod_lt i hn0
  have hdm := Nat.div_add_mod i C.nd
  have hdv : i / C.nd = 1 := by
    have : (opAt (List.range C.nd) i).1 = i / C.nd + 1 := by unfold opAt; rw [List.length_range]
    omega
  have hop : opAt (List.range C.nd) i = (2, C.nd - 1 - i % C.nd) := by
    unfold opAt
    rw [List.length_range, hdv, devAt_id hm]
    rfl
  have hsn := goodK_snoc (o := List.range C.nd) (k := i) (by rw [List.length_range]; exact hi)
  rw [hop] at hsn ⊢
  simp only
  rw [hdv, Nat.mul_one] at hdm
  generalize hie : i % C.nd = j at hm hdm hsn
  generalize hde : C.nd - 1 - j = d at hsn
  have hd : d < C.nd := by omega
  have hch : ∀ c', c' < C.nd → d < c' → (2, c') ∈ goodK (List.range C.nd) i := fun c' hc hdc => by
    have h1 : opAt (List.range C.nd) (C.nd + (C.nd - 1 - c')) = (2, c') := by
      have e1 : (C.nd + (C.nd - 1 - c')) / C.nd = 1 := by rw [Nat.div_eq_iff hn0]; omega
      have e2 : (C.nd + (C.nd - 1 - c')) % C.nd = C.nd - 1 - c' := by rw [Nat.add_mod_left, Nat.mod_eq_of_lt (by omega)]
      unfold opAt
      rw [List.length_range, e1, e2, devAt_id (by omega)]
      exact Prod.ext rfl (by show (if rev 2 = true then C.nd - 1 - (C.nd - 1 - c') else C.nd - 1 - c') = c'; rw [if_pos (by decide)]; omega)
    unfold goodK downL
    rw [List.mem_iff_getElem?]
    refine ⟨C.nd + (C.nd - 1 - c'), ?_⟩
    rw [List.getElem?_take, if_pos (by omega), List.getElem?_map, List.length_range, List.getElem?_range (by omega)]
    exact congrArg some h1
  have hnb : ¬ Blocked C s d 4 := by
    rintro (⟨_, h2⟩ | ⟨c', hc, h2, h3⟩)
    · have := hinv.st4 (C.par d).toNat
      omega
    · have hp := hC.par c' hc
      rw [hst c' hc, if_pos (hch c' hc (by omega))] at h3
      omega
  obtain ⟨e1, e2, e3⟩ := set_ok (k := 4) hd (by omega) hnb hclk (by unfold MaxT; omega)
  rw [show (((4 : Nat) : Int)) = (4 : Int) from rfl] at e1 e2 e3
  refine ⟨hd, e1, setM_inv hC hinv _ _, by rw [e3]; exact Nat.le_refl _, fun p hp => ?_⟩
  rw [e2, hsn]
  by_cases e : p = d
  · subst e
    rw [rup_same, if_pos (by simp)]
  · rw [rup_other e, hst p hp]
    simp [e]
theorem sf_same (hi : i < 4 * n) (hst : ∀ p, p < n → st p = if (2, p) ∈ goodK (List.range n) i then 4 else 0) (hph : ¬ (opAt (List.range n) i).1 = 2) : ∀ p, p < n → st p = if (2, p) ∈ goodK (List.range n) (i + 1) then 4 else 0 := fun p hp => by
  rw [goodK_snoc (by rw [List.length_range]; exact hi), hst p hp]
  have e : ((2, p) ∈ goodK (List.range n) i ++ [opAt (List.range n) i]) ↔ (2, p) ∈ goodK (List.range n) i := by
    rw [List.mem_append, List.mem_singleton]
    exact ⟨fun h => h.elim id (fun h => absurd (by rw [← h]) hph), .inl⟩
  simp only [e]
/-- A device goes into D0 on the way up. -/
theorem sf_on (hC : TOk C) (hinv : TInv C s) (hclk : s.clk ≤ i) (hnd : C.nd ≤ 6) (hi : i ≤ 8 * C.nd) (ha : Asc7 (x :: L)) (hx : ∀ y ∈ x :: L, 5 ≤ y.1 ∧ y.2 < C.nd) (hst : ∀ p, p < C.nd → s.st p = if (7, p) ∈ x :: L then 4 else 0) (hph : x.1 = 7) :
    (setM C i (x.2 : Int) 0 s).2.2 = 0 ∧ TInv C (setM C i (x.2 : Int) 0 s).1 ∧ (setM C i (x.2 : Int) 0 s).1.clk ≤ i ∧ ∀ p, p < C.nd → (setM C i (x.2 : Int) 0 s).1.st p = if (7, p) ∈ L then 4 else 0 := by
  have hd := (hx x (List.mem_cons_self ..)).2
  obtain ⟨ha1, _⟩ := List.pairwise_cons.1 ha
  have hno : ∀ p, p ≤ x.2 → (7, p) ∉ L := fun p hp hm => by
    have := ha1 _ hm hph rfl
    simp only at this
    omega
  have hnb : ¬ Blocked C s x.2 0 := by
    rintro (⟨h1, h2⟩ | ⟨c', hc, h2, h3⟩)
    · have hp := hC.par x.2 hd
      rw [hst (C.par x.2).toNat (by omega), if_neg] at h2
      · exact absurd h2 (Nat.lt_irrefl 0)
      · intro hm
        rcases List.mem_cons.1 hm with e | hm
        · have e5 := congrArg Prod.snd e
          simp only at e5
          omega
        · exact hno _ (by omega) hm
    · omega
  obtain ⟨e1, e2, e3⟩ := set_ok (k := 0) hd (by omega) hnb hclk (by unfold MaxT; omega)
  rw [show (((0 : Nat) : Int)) = (0 : Int) from rfl] at e1 e2 e3
  refine ⟨e1, setM_inv hC hinv _ _, by rw [e3]; exact Nat.le_refl _, fun p hp => ?_⟩
  rw [e2]
  by_cases e : p = x.2
  · subst e
    rw [rup_same, if_neg (hno _ (Nat.le_refl _))]
  · rw [rup_other e, hst p hp]
    have e4 : ((7, p) ∈ x :: L) ↔ (7, p) ∈ L := by
      rw [List.mem_cons]
      exact ⟨fun h => h.elim (fun h => absurd (by rw [← h]) e) id, .inr⟩
    simp only [e4]
theorem sf_pass (hst : ∀ p, p < n → st p = if (7, p) ∈ x :: L then 4 else 0) (hph : ¬ x.1 = 7) : ∀ p, p < n → st p = if (7, p) ∈ L then 4 else 0 := fun p hp => by
  rw [hst p hp]
  have e4 : ((7, p) ∈ x :: L) ↔ (7, p) ∈ L := by
    rw [List.mem_cons]
    exact ⟨fun h => h.elim (fun h => absurd (by rw [← h]) hph) id, .inr⟩
  simp only [e4]
end
end Go.Proofs.Ytdocdgghphhdpaa

