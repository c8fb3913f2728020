/- Plain: a device powered up from its root down, and off again. -/
import Derived.Test.YtdocdgghphhdpaaTrP2Mg
namespace Go.Proofs.Ytdocdgghphhdpaa
open Go.RowKit

theorem diff_nil (l : List Int) : diffM l [] = l := by simp [diffM]
theorem nil_diff (l : List Int) : diffM [] l = [] := rfl
structure PuUp (C : TC) (now rdy : Nat) (L : List Nat) (i : Nat) (s : TSt) : Prop where
  inv : TInv C s
  up : UpI C.n C.R now rdy s.r
  st : ∀ p, s.st p = if p ∈ L.drop i then 0 else 4
  on : ∀ p ∈ L.drop i, ∀ v ∈ C.rl p 0, s.r.cnt v.toNat ≠ 0
  last : rdy = now ∨ ∃ p ∈ L.drop i, ∃ v ∈ C.rl p 0, s.r.dn v.toNat = rdy
  clk : s.clk ≤ now
structure PuDn (C : TC) (rdy : Nat) (L : List Nat) (i : Nat) (s : TSt) : Prop where
  inv : TInv C s
  st : ∀ p, s.st p = if p ∈ L.drop i then 0 else 4
  clk : s.clk ≤ rdy
section
variable {C : TC} {now rdy k0 i p : Nat} {L : List Nat} {s : TSt}
theorem drop_at (hp : L[i]? = some p) : L.drop i = p :: L.drop (i + 1) := by
  obtain ⟨h, e⟩ := List.getElem?_eq_some_iff.1 hp
  rw [List.drop_eq_getElem_cons h, e]
theorem not_later (hC : TOk C) (hL : Pth C k0 L) (hp : L[i]? = some p) : ∀ q ∈ L.drop (i + 1), q < p := fun q hq => by
  have h1 := (hL.dec hC).sublist (List.drop_sublist i L)
  rw [drop_at hp, List.pairwise_cons] at h1
  exact h1.1 q hq
theorem pu_start (C : TC) (now : Nat) (L : List Nat) : PuUp C now now L L.length tsz :=
  ⟨tsz_inv C, ⟨fun j _ h => absurd rfl h, fun _ _ _ => rfl, Nat.le_refl _⟩, fun p => by simp; rfl, (fun p hp => by simp at hp), .inl rfl, Nat.zero_le _⟩
theorem pu_step (hC : TOk C) (hlim : ∀ k, k < C.n → (C.R k).up < 20) (hnow : now ≤ MaxT) (hL : Pth C k0 L) (hp : L[i]? = some p) (h : PuUp C now rdy L (i + 1) s) :
    (setM C now (p : Int) ((0 : Nat) : Int) s).2.2 = 0 ∧ (∀ o ∈ (setM C now (p : Int) ((0 : Nat) : Int) s).2.1, o.on = true) ∧ (setM C now (p : Int) ((0 : Nat) : Int) s).2.1.length ≤ 65 * 64 ∧ PuUp C now (foldR rdy (setM C now (p : Int) ((0 : Nat) : Int) s).2.1) L i (setM C now (p : Int) ((0 : Nat) : Int) s).1 := by
  have hpn : p < C.nd := (hL.le hC p (List.mem_of_getElem? hp)).2
  have hinv := setM_inv (now := now) hC h.inv (p : Int) ((0 : Nat) : Int)
  have hclk := h.clk
  have hnin : p ∉ L.drop (i + 1) := fun hm => by have := not_later hC hL hp p hm; omega
  have hst4 : s.st p = 4 := by rw [h.st p, if_neg hnin]
  have hnb : ¬ Blocked C s p 0 := by
    rintro (⟨h1, h2⟩ | ⟨c, _, _, h3⟩)
    · rcases hL.step hC i p hp with ⟨_, q, h3, h4, _⟩ | ⟨_, h3⟩
      · rw [h4, Int.toNat_natCast, h.st q, if_pos (by
          rw [drop_at h3]
          exact List.mem_cons_self ..)] at h2
        omega
      · omega
    · omega
  have hacq : acqs C s p 0 = C.rl p 0 := by
    unfold acqs
    rw [hst4]
    show diffM (C.rl p 0) [] = _
    exact diff_nil _
  have hrel : rels C s p 0 = [] := by
    unfold rels
    rw [hst4]
    show (diffM [] _).reverse = []
    rfl
  have e : setM C now (p : Int) ((0 : Nat) : Int) s = (⟨rup s.st p 0, (acqF C now (C.rl p 0) s.r).1, now⟩, (acqF C now (C.rl p 0) s.r).2, 0) := by
    rw [setM, if_neg (by omega), Int.toNat_natCast, Int.toNat_natCast, if_neg hnb, setOk, hacq, hrel]
    simp only [relF, List.append_nil]
  have hrl : ∀ v ∈ C.rl p 0, 0 ≤ v ∧ v < (C.n : Int) := fun v hv => hC.rail p 0 hpn v hv
  have ha := acq_up hC hlim hnow (C.rl p 0) hrl h.up
  have hlen := acqF_len hC now (l := C.rl p 0) (r := s.r) hrl
  have hl64 := hC.len p 0
  rw [e] at hinv ⊢
  generalize acqF C now (C.rl p 0) s.r = A at ha hlen hinv ⊢
  refine ⟨rfl, ha.ops, by show A.2.length ≤ _; omega, hinv, ha.up, fun q => ?_, fun q hq v hv => ?_, ?_, Nat.le_refl _⟩
  · show rup s.st p 0 q = _
    rw [drop_at hp]
    by_cases e : q = p
    · subst e
      rw [rup_same, if_pos (List.mem_cons_self ..)]
    · rw [rup_other e, h.st q]
      simp [e]
  · rw [drop_at hp] at hq
    rcases List.mem_cons.1 hq with rfl | hq
    · exact ha.cnt v hv
    · exact (ha.keep _ (h.on q hq v hv)).1
  · show foldR rdy A.2 = now ∨ ∃ q ∈ L.drop i, ∃ v ∈ C.rl q 0, A.1.dn v.toNat = foldR rdy A.2
    rw [drop_at hp]
    rcases ha.fold with h1 | ⟨v, hv, h1⟩
    · rw [h1]
      rcases h.last with h2 | ⟨q, hq, v, hv, h2⟩
      · exact .inl h2
      · exact .inr ⟨q, List.mem_cons_of_mem _ hq, v, hv, by rw [(ha.keep _ (h.on q hq v hv)).2, h2]⟩
    · exact .inr ⟨p, List.mem_cons_self .., v, hv, h1⟩
theorem pu_acc (hC : TOk C) (hL : Pth C k0 L) (h : PuUp C now rdy L 0 s) {P : RP} (hP : P.n = C.n) : accM C P s (k0 : Int) rdy = true := by
  rw [acc_path hC hL]
  refine List.all_eq_true.2 (fun p hp => ?_)
  have hpn := (hL.le hC p hp).2
  unfold accR
  rw [Bool.and_eq_true]
  refine ⟨decide_eq_true (by rw [h.st p, if_pos (by simpa using hp)]), List.all_eq_true.2 (fun v hv => ?_)⟩
  have hb := hC.rail p 0 hpn v hv
  have hc := h.on p (by simpa using hp) v hv
  have hd := (h.up.on v.toNat (by omega) hc).1
  unfold powI useI
  rw [hP]
  simp only [Bool.and_eq_true, decide_eq_true_eq]
  exact ⟨⟨hb, hc⟩, hd⟩
theorem pu_not (hC : TOk C) (hL : Pth C k0 L) (h : PuUp C now rdy L 0 s) (hr : now < rdy) {P : RP} : accM C P s (k0 : Int) (rdy - 1) = false := by
  rw [acc_path hC hL]
  rcases h.last with h1 | ⟨p, hp, v, hv, hd⟩
  · omega
  refine List.all_eq_false.2 ⟨p, by simpa using hp, ?_⟩
  unfold accR
  rw [Bool.and_eq_true]
  rintro ⟨-, h2⟩
  have h3 := List.all_eq_true.1 h2 v hv
  unfold powI at h3
  rw [Bool.and_eq_true] at h3
  have := of_decide_eq_true h3.2
  omega
theorem pu_bd (hC : TOk C) (hL : Pth C k0 L) (h : PuUp C now rdy L i s) : rdy ≤ now + 1400 := by
  rcases h.last with h1 | ⟨p, hp, v, hv, hd⟩
  · omega
  · have hpn := (hL.le hC p (List.mem_of_mem_drop hp)).2
    have hb := hC.rail p 0 hpn v hv
    obtain ⟨hch, hcl⟩ := hC.ch v.toNat (by omega)
    have := (h.up.on v.toNat (by omega) (h.on p hp v hv)).2 _ hch
    omega
theorem pd_start (h : PuUp C now rdy L 0 s) : PuDn C rdy L 0 s := ⟨h.inv, h.st, Nat.le_trans h.clk h.up.le⟩
theorem pd_step (hC : TOk C) (hrdy : rdy ≤ MaxT) (hL : Pth C k0 L) (hp : L[i]? = some p) (h : PuDn C rdy L i s) :
    (setM C rdy (p : Int) ((4 : Nat) : Int) s).2.2 = 0 ∧ PuDn C rdy L (i + 1) (setM C rdy (p : Int) ((4 : Nat) : Int) s).1 := by
  have hpn : p < C.nd := (hL.le hC p (List.mem_of_getElem? hp)).2
  have hinv := setM_inv (now := rdy) hC h.inv (p : Int) ((4 : Nat) : Int)
  have hclk := h.clk
  have hnin : p ∉ L.drop (i + 1) := fun hm => by have := not_later hC hL hp p hm; omega
  have hnb : ¬ Blocked C s p 4 := by
    rintro (⟨_, h2⟩ | ⟨c, hc, h2, h3⟩)
    · have := h.inv.st4 (C.par p).toNat
      omega
    · rw [h.st c] at h3
      split at h3
      · rename_i hm
        obtain ⟨j, hj⟩ := List.getElem?_of_mem hm
        rw [List.getElem?_drop] at hj
        rcases hL.step hC (i + j) c hj with ⟨_, q, h4, h5, _⟩ | ⟨_, h4⟩
        · have : q = p := by omega
          subst this
          have h6 : q ∈ L.drop (i + 1) := by
            rw [List.mem_iff_getElem?]
            exact ⟨j, by rw [List.getElem?_drop, show i + 1 + j = i + j + 1 by omega]; exact h4⟩
          exact hnin h6
        · omega
      · omega
  have e : setM C rdy (p : Int) ((4 : Nat) : Int) s = ((setOk C rdy p 4 s).1, (setOk C rdy p 4 s).2, 0) := by
    rw [setM, if_neg (by omega), Int.toNat_natCast, Int.toNat_natCast, if_neg hnb]
  rw [e] at hinv ⊢
  refine ⟨rfl, hinv, fun q => ?_, Nat.le_refl _⟩
  show rup s.st p 4 q = _
  by_cases e : q = p
  · subst e
    rw [rup_same, if_neg hnin]
  · rw [rup_other e, h.st q, drop_at hp]
    simp [e]
theorem pd_end {rk : Nat → Nat} (hr : RankR C.n C.R rk) (hk : ∀ k, rk k ≤ 8) (h : PuDn C rdy L L.length s) {j : Nat} (hj : j < C.n) : s.r.cnt j = 0 := by
  refine own_zero h.inv.own (fun j hj => ?_) hr hk 8 j hj (by omega)
  have e : s.st = fun _ => 4 := funext fun p => by rw [h.st p]; simp
  rw [e]
  exact useN_four C j C.nd
end
end Go.Proofs.Ytdocdgghphhdpaa

