/- Plain: rails that are only acquired; no use leaves no rail on; the path from a device to its root. -/
import Derived.Test.YtdocdgghphhdpaaMgRpInUse14
namespace Go.Proofs.Ytdocdgghphhdpaa
open Go.RowKit

theorem heldN_zero {R : Nat → RailD} {s : RSt} {j : Nat} : ∀ m, (∀ i, i < m → ¬ ((R i).sup = (j : Int) ∧ 0 < s.cnt i)) → heldN R s j m = 0
  | 0, _ => rfl
  | m + 1, h => by rw [heldN, heldN_zero m (fun i hi => h i (by omega)), if_neg (h m (by omega))]
/-- Without uses no rail is on. -/
theorem own_zero {n : Nat} {R : Nat → RailD} {s : RSt} {f rk : Nat → Nat} (h : Own n R s f) (hf : ∀ j, j < n → f j = 0) (hr : RankR n R rk) (hk : ∀ k, rk k ≤ 8) : ∀ m j, j < n → 8 - rk j ≤ m → s.cnt j = 0 := by
  intro m
  induction m with
  | zero =>
    intro j hj hm
    rw [h j hj, hf j hj, heldN_zero n (fun i hi hc => ?_)]
    rcases hr i hi with h1 | ⟨q, h1, h2, h3⟩
    · omega
    · have := hk i
      have : q = j := by omega
      subst this
      omega
  | succ m ih =>
    intro j hj hm
    rw [h j hj, hf j hj, heldN_zero n (fun i hi hc => ?_)]
    rcases hr i hi with h1 | ⟨q, h1, h2, h3⟩
    · omega
    · have : q = j := by omega
      subst this
      have := ih i hi (by have := hk i; omega)
      omega
def foldR (rdy : Nat) (ops : List ROp) : Nat := ops.foldl (fun m o => max m o.dn) rdy
theorem foldR_app (rdy : Nat) (a b : List ROp) : foldR rdy (a ++ b) = foldR (foldR rdy a) b := by simp [foldR]
theorem foldR_le : ∀ (ops : List ROp) (rdy : Nat), rdy ≤ foldR rdy ops
  | [], _ => Nat.le_refl _
  | o :: ops, rdy => Nat.le_trans (Nat.le_max_left _ _) (foldR_le ops (max rdy o.dn))
theorem foldR_mem : ∀ (ops : List ROp) (rdy : Nat) (o : ROp), o ∈ ops → o.dn ≤ foldR rdy ops
  | [], _, _, h => by cases h
  | x :: ops, rdy, o, h => by
    rcases List.mem_cons.1 h with rfl | h
    · exact Nat.le_trans (Nat.le_max_right _ _) (foldR_le ops (max rdy o.dn))
    · exact foldR_mem ops (max rdy x.dn) o h
theorem foldR_bd : ∀ (ops : List ROp) (rdy D : Nat), (∀ o ∈ ops, o.dn ≤ D) → foldR rdy ops ≤ max rdy D
  | [], _, _, _ => Nat.le_max_left _ _
  | x :: ops, rdy, D, h => by
    have h1 := foldR_bd ops (max rdy x.dn) D (fun o ho => h o (List.mem_cons_of_mem _ ho))
    have h2 := h x (List.mem_cons_self ..)
    show foldR (max rdy x.dn) ops ≤ _
    omega
/-- Rails that have only been acquired, at time now; rdy is the last completion. -/
structure UpI (n : Nat) (R : Nat → RailD) (now rdy : Nat) (r : RSt) : Prop where
  on : ∀ j, j < n → r.cnt j ≠ 0 → r.dn j ≤ rdy ∧ ∀ L, Chn n R j L → r.dn j ≤ now + 20 * (L.length + 1)
  off : ∀ j, j < n → r.cnt j = 0 → r.dn j = 0
  le : now ≤ rdy
structure AddUp (n : Nat) (R : Nat → RailD) (now rdy k : Nat) (r : RSt) (a : RSt × List ROp) : Prop where
  ops : ∀ o ∈ a.2, o.on = true ∧ o.dn ≤ a.1.dn k
  up : UpI n R now (foldR rdy a.2) a.1
  cnt : a.1.cnt k ≠ 0
  keep : ∀ j, r.cnt j ≠ 0 → a.1.cnt j ≠ 0 ∧ a.1.dn j = r.dn j
  fold : foldR rdy a.2 = rdy ∨ foldR rdy a.2 = a.1.dn k
section
variable {n : Nat} {R : Nat → RailD} {now rdy k : Nat} {L : List Nat} {r : RSt}
theorem inc_up (h : UpI n R now rdy r) (hk : r.cnt k ≠ 0) : AddUp n R now rdy k r (incR k r, []) := by
  have e : ∀ j, (incR k r).cnt j ≠ 0 ↔ r.cnt j ≠ 0 := fun j => by
    show rup r.cnt k (r.cnt k + 1) j ≠ 0 ↔ _
    by_cases he : j = k
    · subst he; rw [rup_same]; omega
    · rw [rup_other he]
  exact ⟨(fun o ho => by cases ho), ⟨fun j hj hc => h.on j hj ((e j).1 hc), fun j hj hc => h.off j hj (Decidable.byContradiction fun hc2 => (e j).2 hc2 hc), h.le⟩, (e k).2 hk, fun j hj => ⟨(e j).2 hj, rfl⟩, .inl rfl⟩
/-- Acquiring a rail turns rails on only, and it comes up last. -/
theorem add_up (hlim : ∀ k, k < n → (R k).up < 20) (hnow : now ≤ MaxT) (hc : Chn n R k L) : L.length ≤ 64 → ∀ {r : RSt}, UpI n R now rdy r → AddUp n R now rdy k r (addC R now k L r) := by
  induction hc with
  | @root k hk hs =>
    intro hL r h
    unfold addC
    split
    · rename_i hz
      have hd := h.off k hk hz
      have hu := hlim k hk
      have hle := h.le
      have hst : (max now (r.dn k) + (R k).up) % W64 = now + (R k).up := by
        rw [hd]
        unfold W64 MaxT at *
        omega
      have ecnt : ∀ j, j ≠ k → (addFin R k (max now (r.dn k)) r []).1.cnt j = r.cnt j := fun j hj => rup_other hj
      have edn : ∀ j, j ≠ k → (addFin R k (max now (r.dn k)) r []).1.dn j = r.dn j := fun j hj => rup_other hj
      have ek : (addFin R k (max now (r.dn k)) r []).1.dn k = now + (R k).up := rup_same.trans hst
      have eck : (addFin R k (max now (r.dn k)) r []).1.cnt k = r.cnt k + 1 := rup_same
      have eo : (addFin R k (max now (r.dn k)) r []).2 = [⟨k, true, max now (r.dn k), now + (R k).up⟩] := by
        show [] ++ [_] = _
        rw [hst]; rfl
      have ef : foldR rdy (addFin R k (max now (r.dn k)) r []).2 = max rdy (now + (R k).up) := by rw [eo]; rfl
      refine ⟨fun o ho => ?_, ⟨fun j hj hcj => ?_, fun j hj hcj => ?_, ?_⟩, by omega, fun j hj => ?_, ?_⟩
      · rw [eo] at ho
        rw [List.mem_singleton.1 ho, ek]
        exact ⟨rfl, Nat.le_refl _⟩
      · rw [ef]
        by_cases e : j = k
        · subst e
          rw [ek]
          exact ⟨Nat.le_max_right _ _, fun L _ => by omega⟩
        · rw [edn j e]
          rw [ecnt j e] at hcj
          obtain ⟨h1, h2⟩ := h.on j hj hcj
          exact ⟨by omega, h2⟩
      · by_cases e : j = k
        · subst e; omega
        · rw [edn j e]
          rw [ecnt j e] at hcj
          exact h.off j hj hcj
      · rw [ef]; omega
      · have e : j ≠ k := fun e => by subst e; exact hj hz
        rw [ecnt j e, edn j e]
        exact ⟨hj, rfl⟩
      · rw [ef, ek]; omega
    · rename_i hz
      exact inc_up h hz
  | @next k q L hk hs hc hn ih =>
    intro hL r h
    have hL' : L.length ≤ 64 := by simp at hL; omega
    unfold addC
    split
    · rename_i hz
      have a := ih hL' h
      obtain ⟨hf1, hf2⟩ := add_far (R := R) (now := now) (s := r) hn
      generalize hA : addC R now q L r = A at a hf1 hf2 ⊢
      have hu := hlim k hk
      have hd : r.dn k = 0 := h.off k hk hz
      have hq := a.up.on q hc.lt a.cnt
      have hqb := hq.2 L hc
      have hle := h.le
      have hst : (max (max now (r.dn k)) (A.1.dn q) + (R k).up) % W64 = max now (A.1.dn q) + (R k).up := by
        rw [hd]
        unfold W64 MaxT at *
        omega
      have hnk : q ≠ k := fun e => hn (by simp [e])
      generalize hsx : max (max now (r.dn k)) (A.1.dn q) = sx at hst
      have ecnt : ∀ j, j ≠ k → (addFin R k sx A.1 A.2).1.cnt j = A.1.cnt j := fun j hj => rup_other hj
      have edn : ∀ j, j ≠ k → (addFin R k sx A.1 A.2).1.dn j = A.1.dn j := fun j hj => rup_other hj
      have ek : (addFin R k sx A.1 A.2).1.dn k = max now (A.1.dn q) + (R k).up := rup_same.trans hst
      have eck : (addFin R k sx A.1 A.2).1.cnt k = A.1.cnt k + 1 := rup_same
      have eo : (addFin R k sx A.1 A.2).2 = A.2 ++ [⟨k, true, sx, max now (A.1.dn q) + (R k).up⟩] := by
        show A.2 ++ [_] = _
        rw [hst]
      have ef : foldR rdy (addFin R k sx A.1 A.2).2 = max (foldR rdy A.2) (max now (A.1.dn q) + (R k).up) := by rw [eo, foldR_app]; rfl
      have hfb : foldR rdy A.2 = rdy ∨ foldR rdy A.2 = A.1.dn q := a.fold
      have hfl := foldR_le A.2 rdy
      refine ⟨fun o ho => ?_, ⟨fun j hj hcj => ?_, fun j hj hcj => ?_, ?_⟩, by omega, fun j hj => ?_, ?_⟩
      · rw [eo, List.mem_append, List.mem_singleton] at ho
        rw [ek]
        rcases ho with ho | rfl
        · have := a.ops o ho
          exact ⟨this.1, by omega⟩
        · exact ⟨rfl, Nat.le_refl _⟩
      · rw [ef]
        by_cases e : j = k
        · subst e
          rw [ek]
          refine ⟨Nat.le_max_right _ _, fun L' hL' => ?_⟩
          cases hL' with
          | root _ h0 => omega
          | @next _ q' L'' _ h0 h1 _ =>
            have : q' = q := by omega
            subst this
            have := hq.2 L'' h1
            simp only [List.length_cons]
            omega
        · rw [edn j e]
          rw [ecnt j e] at hcj
          obtain ⟨h1, h2⟩ := a.up.on j hj hcj
          exact ⟨by omega, h2⟩
      · by_cases e : j = k
        · subst e; omega
        · rw [edn j e]
          rw [ecnt j e] at hcj
          exact a.up.off j hj hcj
      · rw [ef]; omega
      · have e : j ≠ k := fun e => by subst e; exact hj hz
        rw [ecnt j e, edn j e]
        exact a.keep j hj
      · rw [ef, ek]; omega
    · rename_i hz
      exact inc_up h hz
end
structure AcqUp (n : Nat) (R : Nat → RailD) (now rdy : Nat) (l : List Int) (r : RSt) (a : RSt × List ROp) : Prop where
  ops : ∀ o ∈ a.2, o.on = true
  up : UpI n R now (foldR rdy a.2) a.1
  cnt : ∀ v ∈ l, a.1.cnt v.toNat ≠ 0
  keep : ∀ j, r.cnt j ≠ 0 → a.1.cnt j ≠ 0 ∧ a.1.dn j = r.dn j
  fold : foldR rdy a.2 = rdy ∨ ∃ v ∈ l, a.1.dn v.toNat = foldR rdy a.2
theorem UpI.clk {n : Nat} {R : Nat → RailD} {now rdy : Nat} {r : RSt} (h : UpI n R now rdy r) (c : Nat) : UpI n R now rdy { r with clk := c } := ⟨h.on, h.off, h.le⟩
theorem acq_up {C : TC} (hC : TOk C) (hlim : ∀ k, k < C.n → (C.R k).up < 20) {now : Nat} (hnow : now ≤ MaxT) : ∀ (l : List Int) {r : RSt} {rdy : Nat}, (∀ v ∈ l, 0 ≤ v ∧ v < (C.n : Int)) → UpI C.n C.R now rdy r → AcqUp C.n C.R now rdy l r (acqF C now l r)
  | [], r, rdy, _, h => ⟨(fun o ho => by cases ho), h, (fun v hv => by cases hv), fun j hj => ⟨hj, rfl⟩, .inl rfl⟩
  | v :: l, r, rdy, hv, h => by
    have h0 := hv v (List.mem_cons_self ..)
    obtain ⟨hch, hcl⟩ := hC.ch v.toNat (by omega)
    have a := add_up hlim hnow hch hcl (h.clk now)
    rw [acqF]
    generalize addC C.R now v.toNat (C.ch v.toNat) { r with clk := now } = A at a ⊢
    have b := acq_up hC hlim hnow l (fun v hm => hv v (List.mem_cons_of_mem _ hm)) a.up
    generalize acqF C now l A.1 = B at b ⊢
    refine ⟨fun o ho => ?_, ?_, fun u hu => ?_, fun j hj => ?_, ?_⟩
    · rcases List.mem_append.1 ho with ho | ho
      · exact (a.ops o ho).1
      · exact b.ops o ho
    · show UpI C.n C.R now (foldR rdy (A.2 ++ B.2)) B.1
      rw [foldR_app]
      exact b.up
    · rcases List.mem_cons.1 hu with rfl | hu
      · exact (b.keep _ a.cnt).1
      · exact b.cnt u hu
    · obtain ⟨h1, h2⟩ := a.keep j hj
      obtain ⟨h3, h4⟩ := b.keep j h1
      exact ⟨h3, h4.trans h2⟩
    · show foldR rdy (A.2 ++ B.2) = rdy ∨ ∃ u ∈ v :: l, B.1.dn u.toNat = foldR rdy (A.2 ++ B.2)
      rw [foldR_app]
      rcases b.fold with h1 | ⟨u, hu, h1⟩
      · rw [h1]
        rcases a.fold with h2 | h2
        · exact .inl h2
        · exact .inr ⟨v, List.mem_cons_self .., by rw [(b.keep _ a.cnt).2, h2]⟩
      · exact .inr ⟨u, List.mem_cons_of_mem _ hu, h1⟩
/-- The devices from k to its root. -/
inductive Pth (C : TC) : Nat → List Nat → Prop
  | root {k : Nat} : k < C.nd → C.par k < 0 → Pth C k [k]
  | next {k q : Nat} {L : List Nat} : k < C.nd → C.par k = (q : Int) → Pth C q L → Pth C k (k :: L)
theorem pth_ex {C : TC} (hC : TOk C) : ∀ m k, k ≤ m → k < C.nd → ∃ L, Pth C k L := by
  intro m
  induction m with
  | zero =>
    intro k hm hk
    have := hC.par k hk
    exact ⟨_, .root hk (by omega)⟩
  | succ m ih =>
    intro k hm hk
    have hp := hC.par k hk
    by_cases h0 : C.par k < 0
    · exact ⟨_, .root hk h0⟩
    · obtain ⟨q, hq⟩ := Int.eq_ofNat_of_zero_le (show 0 ≤ C.par k by omega)
      obtain ⟨L, hL⟩ := ih q (by omega) (by omega)
      exact ⟨_, .next hk hq hL⟩
theorem Pth.lt {C : TC} {k : Nat} {L : List Nat} (h : Pth C k L) : k < C.nd := by cases h <;> assumption
theorem Pth.head {C : TC} {k : Nat} {L : List Nat} (h : Pth C k L) : L[0]? = some k := by cases h <;> rfl
theorem Pth.le {C : TC} (hC : TOk C) {k : Nat} {L : List Nat} (h : Pth C k L) : ∀ p ∈ L, p ≤ k ∧ p < C.nd := by
  induction h with
  | @root k hk _ => intro p hp; rw [List.mem_singleton.1 hp]; exact ⟨Nat.le_refl _, hk⟩
  | @next k q L hk hq _ ih =>
    intro p hp
    have := hC.par k hk
    rcases List.mem_cons.1 hp with rfl | hp
    · exact ⟨Nat.le_refl _, hk⟩
    · have := ih p hp
      omega
/-- Each member's parent is the next one; the last has none. -/
theorem Pth.step {C : TC} (hC : TOk C) {k : Nat} {L : List Nat} (h : Pth C k L) : ∀ i p, L[i]? = some p → (i + 1 < L.length ∧ ∃ q, L[i + 1]? = some q ∧ C.par p = (q : Int) ∧ q < p) ∨ (i + 1 = L.length ∧ C.par p < 0) := by
  induction h with
  | @root k hk h0 =>
    intro i p hp
    cases i with
    | zero => simp at hp; subst hp; exact .inr ⟨rfl, h0⟩
    | succ i => simp at hp
  | @next k q L hk hq hL ih =>
    intro i p hp
    have := hC.par k hk
    cases i with
    | zero =>
      simp at hp
      subst hp
      refine .inl ⟨?_, q, by simpa using hL.head, hq, by omega⟩
      have := hL.head
      have := (List.getElem?_eq_some_iff.1 this).1
      simp
      omega
    | succ i =>
      simp at hp
      rcases ih i p hp with ⟨h1, q', h2, h3, h4⟩ | ⟨h1, h2⟩
      · exact .inl ⟨by simp; omega, q', by simpa using h2, h3, h4⟩
      · exact .inr ⟨by simp; omega, h2⟩
theorem Pth.dec {C : TC} (hC : TOk C) {k : Nat} {L : List Nat} (h : Pth C k L) : L.Pairwise (fun a b => b < a) := by
  induction h with
  | root _ _ => exact List.pairwise_singleton _ _
  | @next k q L hk hq hL ih =>
    refine List.pairwise_cons.2 ⟨fun p hp => ?_, ih⟩
    have := hL.le hC p hp
    have := hC.par k hk
    omega
theorem Pth.len {C : TC} (hC : TOk C) {k : Nat} {L : List Nat} (h : Pth C k L) : L.length ≤ k + 1 := by
  induction h with
  | root _ _ => simp
  | @next k q L hk hq _ ih =>
    have := hC.par k hk
    simp
    omega
theorem acc_path {C : TC} (hC : TOk C) {P : RP} {s : TSt} {t k : Nat} {L : List Nat} (h : Pth C k L) : accM C P s (k : Int) t = L.all fun p => accR C P s t p := by
  induction h with
  | @root k hk h0 => rw [acc_one hC hk, if_pos h0]; simp
  | @next k q L hk hq hL ih =>
    rw [acc_one hC hk, hq, if_neg (by omega), ih]
    simp
end Go.Proofs.Ytdocdgghphhdpaa

