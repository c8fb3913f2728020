/- Plain: a device powered up from its root down, and off again. -/
import Derived.Test.YtdocdgghphhdpaaTrP2Mg
import Derived.Test.YtdocdgghphhdpaaBase
namespace Go.Proofs.Ytdocdgghphhdpaa
open Go.RowKit

theorem diff_nil (l : List Int) : diffM l [] = l := by simp [diffM]
theorem nil_diff (l : List Int) : diffM [] l = [] := rfl
structure PuUp (C : TC) (now rdy : Nat) (L : List Nat) (i : Nat) (s : TSt) : Prop where
  inv : TInv C s
  up : UpI C.n C.R now rdy s.r
  st : ∀ p, s.st p = if p ∈ L.drop i then 0 else 4
  on : ∀ p ∈ L.drop i, ∀ v ∈ C.rl p 0, s.r.cnt v.toNat ≠ 0
  last : rdy = now ∨ ∃ p ∈ L.drop i, ∃ v ∈ C.rl p 0, s.r.dn v.toNat = rdy
  clk : s.clk ≤ now
structure PuDn (C : TC) (rdy : Nat) (L : List Nat) (i : Nat) (s : TSt) : Prop where
  inv : TInv C s
  st : ∀ p, s.st p = if p ∈ L.drop i then 0 else 4
  clk : s.clk ≤ rdy
section
variable {C : TC} {now rdy k0 i p : Nat} {L : List Nat} {s : TSt}
theorem drop_at (hp : L[i]? = some p) : L.drop i = p :: L.drop (i + 1) := by
  obtain ⟨h, e⟩ := List.getElem?_eq_some_iff.1 hp
  rw [List.drop_eq_getElem_cons h, e]
theorem not_later (hC : TOk C) (hL : Pth C k0 L) (hp : L[i]? = some p) : ∀ q ∈ L.drop (i + 1), q < p := fun q hq => by
  have h1 := (hL.dec hC).sublist (List.drop_sublist i L)
  rw [drop_at hp, List.pairwise_cons] at h1
  exact h1.1 q hq
theorem pu_start (C : TC) (now : Nat) (L : List Nat) : PuUp C now now L L.length tsz :=
  ⟨tsz_inv C, ⟨fun j _ h => absurd rfl h, fun _ _ _ => rfl, Nat.le_refl _⟩, fun p => by simp; rfl, (fun p hp => by simp at hp), .inl rfl, Nat.zero_le _⟩
theorem pu_step (hC : TOk C) (hlim : ∀ k, k < C.n → (C.R k).up < 20) (hnow : now ≤ MaxT) (hL : Pth C k0 L) (hp : L[i]? = some p) (h : PuUp C now rdy L (i + 1) s) :
    (setM C now (p : Int) ((0 : Nat) : Int) s).2.2 = 0 ∧ (∀ o ∈ (setM C now (p : Int) ((0 : Nat) : Int) s).2.1, o.on = true) ∧ (setM C now (p : Int) ((0 : Nat) : Int) s).2.1.length ≤ 65 * 64 ∧ PuUp C now (foldR rdy (setM C now (p : Int) ((0 : Nat) : Int) s).2.1) L i (setM C now (p : Int) ((0 : Nat) : Int) s).1 := by
  have hpn : p < C.nd := (hL.le hC p (List.mem_of_getElem? hp)).2
  have hinv := setM_inv (now := now) hC h.inv (p : Int) ((0 : Nat) : Int)
  have hclk := h.clk
  have hnin : p ∉ L.drop (i + 1) := fun hm => by have := not_later hC hL hp p hm; omega
  have hst4 : s.st p = 4 := by rw [h.st p, if_neg hnin]
  have hnb : ¬ Blocked C s p 0 := by
    rintro (⟨h1, h2⟩ | ⟨c, _, _, h3⟩)
    · rcases hL.step hC i p hp with ⟨_, q, h3, h4, _⟩ | ⟨_, h3⟩
      · rw [h4, Int.toNat_natCast, h.st q, if_pos (by
          rw [drop_at h3]
          exact List.mem_cons_self ..)] at h2
        omega
      · omega
    · omega
  have hacq : acqs C s p 0 = C.rl p 0 := by
    unfold acqs
    rw [hst4]
    show diffM (C.rl p 0) [] = _
    exact diff_nil _
  have hrel : rels C s p 0 = [] := by
    unfold rels
    rw [hst4]
    show (diffM [] _).reverse = []
    rfl
  have e : setM C now (p : Int) ((0 : Nat) : Int) s = (⟨rup s.st p 0, (acqF C now (C.rl p 0) s.r).1, now⟩, (acqF C now (C.rl p 0) s.r).2, 0) := by
    rw [setM, if_neg (by omega), Int.toNat_natCast, Int.toNat_natCast, if_neg hnb, setOk, hacq, hrel]
    simp only [relF, List.append_nil]
  have hrl : ∀ v ∈ C.rl p 0, 0 ≤ v ∧ v < (C.n : Int) := fun v hv => hC.rail p 0 hpn v hv
  have ha := acq_up hC hlim hnow (C.rl p 0) hrl h.up
  have hlen := acqF_len hC now (l := C.rl p 0) (r := s.r) hrl
  have hl64 := hC.len p 0
  rw [e] at hinv ⊢
  generalize acqF C now (C.rl p 0) s.r = A at ha hlen hinv ⊢
  refine ⟨rfl, ha.ops, by show A.2.length ≤ _; omega, hinv, ha.up, fun q => ?_, fun q hq v hv => ?_, ?_, Nat.le_refl _⟩
  · show rup s.st p 0 q = _
    rw [drop_at hp]
    by_cases e : q = p
    · subst e
      rw [rup_same, if_pos (List.mem_cons_self ..)]
    · rw [rup_other e, h.st q]
      simp [e]
  · rw [drop_at hp] at hq
    rcases List.mem_cons.1 hq with rfl | hq
    · exact ha.cnt v hv
    · exact (ha.keep _ (h.on q hq v hv)).1
  · show foldR rdy A.2 = now ∨ ∃ q ∈ L.drop i, ∃ v ∈ C.rl q 0, A.1.dn v.toNat = foldR rdy A.2
    rw [drop_at hp]
    rcases ha.fold with h1 | ⟨v, hv, h1⟩
    · rw [h1]
      rcases h.last with h2 | ⟨q, hq, v, hv, h2⟩
      · exact .inl h2
      · exact .inr ⟨q, List.mem_cons_of_mem _ hq, v, hv, by rw [(ha.keep _ (h.on q hq v hv)).2, h2]⟩
    · exact .inr ⟨p, List.mem_cons_self .., v, hv, h1⟩
theorem pu_acc (hC : TOk C) (hL : Pth C k0 L) (h : PuUp C now rdy L 0 s) {P : RP} (hP : P.n = C.n) : accM C P s (k0 : Int) rdy = true := by
  rw [acc_path hC hL]
  refine List.all_eq_true.2 (fun p hp => ?_)
  have hpn := (hL.le hC p hp).2
  unfold accR
  rw [Bool.and_eq_true]
  refine ⟨decide_eq_true (by rw [h.st p, if_pos (by simpa using hp)]), List.all_eq_true.2 (fun v hv => ?_)⟩
  have hb := hC.rail p 0 hpn v hv
  have hc := h.on p (by simpa using hp) v hv
  have hd := (h.up.on v.toNat (by omega) hc).1
  unfold powI useI
  rw [hP]
  simp only [Bool.and_eq_true, decide_eq_true_eq]
  exact ⟨⟨hb, hc⟩, hd⟩
theorem pu_not (hC : TOk C) (hL : Pth C k0 L) (h : PuUp C now rdy L 0 s) (hr : now < rdy) {P : RP} : accM C P s (k0 : Int) (rdy - 1) = false := by
  rw [acc_path hC hL]
  rcases h.last with h1 | ⟨p, hp, v, hv, hd⟩
  · omega
  refine List.all_eq_false.2 ⟨p, by simpa using hp, ?_⟩
  unfold accR
  rw [Bool.and_eq_true]
  rintro ⟨-, h2⟩
  have h3 := List.all_eq_true.1 h2 v hv
  unfold powI at h3
  rw [Bool.and_eq_true] at h3
  have := of_decide_eq_true h3.2
  omega
theorem pu_bd (hC : TOk C) (hL : Pth C k0 L) (h : PuUp C now rdy L i s) : rdy ≤ now + 1400 := by
  rcases h.last with h1 | ⟨p, hp, v, hv, hd⟩
  · omega
  · have hpn := (hL.le hC p (List.mem_of_mem_drop hp)).2
    have hb := hC.rail p 0 hpn v hv
    obtain ⟨hch, hcl⟩ := hC.ch v.toNat (by omega)
    have := (h.up.on v.toNat (by omega) (h.on p hp v hv)).2 _ hch
    omega
theorem pd_start (h : PuUp C now rdy L 0 s) : PuDn C rdy L 0 s := ⟨h.inv, h.st, Nat.le_trans h.clk h.up.le⟩
theorem pd_step (hC : TOk C) (hrdy : rdy ≤ MaxT) (hL : Pth C k0 L) (hp : L[i]? = some p) (h : PuDn C rdy L i s) :
    (setM C rdy (p : Int) ((4 : Nat) : Int) s).2.2 = 0 ∧ PuDn C rdy L (i + 1) (setM C rdy (p : Int) ((4 : Nat) : Int) s).1 := by
  have hpn : p < C.nd := (hL.le hC p (List.mem_of_getElem? hp)).2
  have hinv := setM_inv (now := rdy) hC h.inv (p : Int) ((4 : Nat) : Int)
  have hclk := h.clk
  have hnin : p ∉ L.drop (i + 1) := fun hm => by have := not_later hC hL hp p hm; omega
  have hnb : ¬ Blocked C s p 4 := by
    rintro (⟨_, h2⟩ | ⟨c, hc, h2, h3⟩)
    · have := h.inv.st4 (C.par p).toNat
      omega
    · rw [h.st c] at h3
      split at h3
      · rename_i hm
        obtain ⟨j, hj⟩ := List.getElem?_of_mem hm
        rw [List.getElem?_drop] at hj
        rcases hL.step hC (i + j) c hj with ⟨_, q, h4, h5, _⟩ | ⟨_, h4⟩
        · have : q = p := by omega
          subst this
          have h6 : q ∈ L.drop (i + 1) := by
            rw [List.mem_iff_getElem?]
            exact ⟨j, by rw [List.getElem?_drop, show i + 1 + j = i + j + 1 by omega]; exact h4⟩
          exact hnin h6
        · omega
      · omega
  have e : setM C rdy (p : Int) ((4 : Nat) : Int) s = ((setOk C rdy p 4 s).1, (setOk C rdy p 4 s).2, 0) := by
    rw [setM, if_neg (by omega), Int.toNat_natCast, Int.toNat_natCast, if_neg hnb]
  rw [e] at hinv ⊢
  refine ⟨rfl, hinv, fun q => ?_, Nat.le_refl _⟩
  show rup s.st p 4 q = _
  by_cases e : q = p
  · subst e
    rw [rup_same, if_neg hnin]
  · rw [rup_other e, h.st q, drop_at hp]
    simp [e]
theorem pd_end {rk : Nat → Nat} (hr : RankR C.n C.R rk) (hk : ∀ k, rk k ≤ 8) (h : PuDn C rdy L L.length s) {j : Nat} (hj : j < C.n) : s.r.cnt j = 0 := by
  refine own_zero h.inv.own (fun j hj => ?_) hr hk 8 j hj (by omega)
  have e : s.st = fun _ => 4 := funext fun p => by rw [h.st p]; simp
  rw [e]
  exact useN_four C j C.nd
end
end Go.Proofs.Ytdocdgghphhdpaa

/- Plain: Set where nothing blocks. -/
namespace Go.Proofs.Ytdocdgghphhdpaa
open Go.RowKit

theorem set_ok {C : TC} {s : TSt} {now p k : Nat} (hp : p < C.nd) (hk : k ≤ 4) (hnb : ¬ Blocked C s p k) (hclk : s.clk ≤ now) (hnow : now ≤ MaxT) :
    (setM C now (p : Int) (k : Int) s).2.2 = 0 ∧ (setM C now (p : Int) (k : Int) s).1.st = rup s.st p k ∧ (setM C now (p : Int) (k : Int) s).1.clk = now := by
  rw [setM, if_neg (by omega), Int.toNat_natCast, Int.toNat_natCast, if_neg hnb]
  exact ⟨rfl, rfl, rfl⟩
end Go.Proofs.Ytdocdgghphhdpaa

/- Run-time power management as the manager does it, plain. No program is in sight here. -/
namespace Go.Proofs.Ytdocdgghphhdpaa

/-- A function turned at one place. -/
def setF {α : Type} (f : Nat → α) (j : Nat) (v : α) (q : Nat) : α := if q = j then v else f q
theorem setF_self {α : Type} (f : Nat → α) (j : Nat) (v : α) : setF f j v j = v := if_pos rfl
theorem setF_ne {α : Type} (f : Nat → α) {j q : Nat} (v : α) (h : q ≠ j) : setF f j v q = f q := if_neg h
/-- What does not change: the number of devices, the links (consumer, supplier), the delays, the order. -/
structure RM where
  n : Nat
  L : List (Nat × Nat)
  dl : Nat → Nat
  ord : List Nat
/-- What changes: which devices are active, the use counts, the idle times, the clock. -/
structure RS where
  act : Nat → Bool
  use : Nat → Nat
  sin : Nat → Nat
  clk : Nat
structure POp where
  dev : Nat
  res : Bool
  tm : Nat
deriving DecidableEq
def supL (L : List (Nat × Nat)) (i : Nat) : List Nat := (L.filter (fun p => p.1 == i)).map (·.2)
def conL (L : List (Nat × Nat)) (i : Nat) : List Nat := (L.filter (fun p => p.2 == i)).map (·.1)
theorem mem_supL {L : List (Nat × Nat)} {i x : Nat} : x ∈ supL L i ↔ (i, x) ∈ L := by
  unfold supL
  simp only [List.mem_map, List.mem_filter, beq_iff_eq]
  constructor
  · rintro ⟨⟨a, b⟩, ⟨h1, h2⟩, h3⟩
    simp at h2 h3
    subst h2 h3
    exact h1
  · exact fun h => ⟨(i, x), ⟨h, rfl⟩, rfl⟩
theorem mem_conL {L : List (Nat × Nat)} {i x : Nat} : x ∈ conL L i ↔ (x, i) ∈ L := by
  unfold conL
  simp only [List.mem_map, List.mem_filter, beq_iff_eq]
  constructor
  · rintro ⟨⟨a, b⟩, ⟨h1, h2⟩, h3⟩
    simp at h2 h3
    subst h2 h3
    exact h1
  · exact fun h => ⟨(x, i), ⟨h, rfl⟩, rfl⟩
section
variable (M : RM)
def idl (s : RS) (i : Nat) : Bool := s.act i && (s.use i == 0 && (conL M.L i).all fun c => !s.act c)
def exy (s : RS) (i : Nat) : Nat := s.sin i + M.dl i
def fstStep (s : RS) (b : Option Nat) (i : Nat) : Option Nat := if idl M s i = true ∧ (∀ j, b = some j → exy M s i < exy M s j) then some i else b
def fstTo (s : RS) : Nat → Option Nat
  | 0 => none
  | k + 1 => fstStep M s (fstTo s k) k
def fstM (s : RS) : Option Nat := fstTo M s M.n
def markS (t : Nat) (s : RS) (x : Nat) : RS := if idl M s x = true then { s with sin := setF s.sin x t } else s
def offS (s : RS) (d : Nat) : RS := (supL M.L d).foldl (markS M (exy M s d)) { s with act := setF s.act d false }
def expK (lim : Nat) : Nat → RS → List POp → RS × List POp
  | 0, s, ops => (s, ops)
  | k + 1, s, ops =>
    match fstM M s with
    | none => (s, ops)
    | some d => if lim < exy M s d then (s, ops) else expK lim k (offS M s d) (ops ++ [⟨d, false, exy M s d⟩])
def expM (lim : Nat) (s : RS) (ops : List POp) : RS × List POp := expK M lim (M.n + 1) s ops
def reqStep (r : Nat → Bool) (i : Nat) : Nat → Bool := if r i = true then (supL M.L i).foldl (fun r x => setF r x true) r else r
def reqM (d : Nat) : Nat → Bool := M.ord.reverse.foldl (reqStep M) (setF (fun _ => false) d true)
def onStep (r : Nat → Bool) (now : Nat) (p : RS × List POp) (i : Nat) : RS × List POp := if r i = true ∧ p.1.act i = false then ({ p.1 with act := setF p.1.act i true }, p.2 ++ [⟨i, true, now⟩]) else p
def useS (s : RS) (d u : Nat) : RS := { s with use := setF s.use d u }
def getM (s : RS) (d now : Nat) : RS × List POp :=
  let e := expM M now { s with clk := now } []
  M.ord.foldl (onStep (reqM M d) now) (useS e.1 d (e.1.use d + 1), e.2)
def idleS (s : RS) (d now : Nat) : RS := if idl M s d = true then { s with sin := setF s.sin d now } else s
def putM (s : RS) (d now : Nat) : RS × List POp :=
  let e := expM M now { s with clk := now } []
  expM M now (idleS M (useS e.1 d (e.1.use d - 1)) d now) e.2
def advM (s : RS) (now : Nat) : RS × List POp := expM M now { s with clk := now } []
def nAct (s : RS) : Nat := ((List.range M.n).filter s.act).length
end
section
variable {M : RM} {s : RS}
theorem fstTo_some {k d : Nat} (h : fstTo M s k = some d) : d < k ∧ idl M s d = true ∧ (∀ i, i < k → idl M s i = true → exy M s d ≤ exy M s i) := by
  induction k generalizing d with
  | zero => cases h
  | succ k ih =>
    unfold fstTo fstStep at h
    split at h
    · rename_i hc
      injection h with h
      subst h
      refine ⟨by omega, hc.1, fun i hi hid => ?_⟩
      by_cases e : i = k
      · subst e; exact Nat.le_refl _
      · cases hf : fstTo M s k with
        | none =>
          exfalso
          have : ∀ q, fstTo M s q = none → ∀ i, i < q → idl M s i = false := by
            intro q
            induction q with
            | zero => intro _ i hi; omega
            | succ q ihq =>
              intro hq i hi
              unfold fstTo fstStep at hq
              split at hq
              · cases hq
              · rename_i hn
                by_cases e2 : i = q
                · subst e2
                  cases hx : idl M s i with
                  | false => rfl
                  | true => exact absurd ⟨hx, fun j hj => by rw [hq] at hj; cases hj⟩ hn
                · exact ihq hq i (by omega)
          rw [this k hf i (by omega)] at hid
          cases hid
        | some j =>
          have h1 := hc.2 j hf
          have h2 := (ih hf).2.2 i (by omega) hid
          omega
    · rename_i hc
      obtain ⟨h1, h2, h3⟩ := ih h
      refine ⟨by omega, h2, fun i hi hid => ?_⟩
      by_cases e : i = k
      · subst e
        apply Nat.le_of_not_lt
        intro hl
        exact hc ⟨hid, fun j hj => by rw [h] at hj; injection hj with hj; subst hj; exact hl⟩
      · exact h3 i (by omega) hid
theorem fstTo_none {k : Nat} (h : fstTo M s k = none) : ∀ i, i < k → idl M s i = false := by
  induction k with
  | zero => intro i hi; omega
  | succ k ih =>
    intro i hi
    unfold fstTo fstStep at h
    split at h
    · cases h
    · rename_i hn
      by_cases e : i = k
      · subst e
        cases hx : idl M s i with
        | false => rfl
        | true => exact absurd ⟨hx, fun j hj => by rw [h] at hj; cases hj⟩ hn
      · exact ih h i (by omega)
theorem idl_act {i : Nat} (h : idl M s i = true) : s.act i = true := by
  unfold idl at h
  simp at h
  exact h.1
theorem markS_act (t : Nat) (x : Nat) : (markS M t s x).act = s.act ∧ (markS M t s x).use = s.use ∧ (markS M t s x).clk = s.clk := by
  unfold markS
  split <;> exact ⟨rfl, rfl, rfl⟩
theorem marks_act (t : Nat) (l : List Nat) (s : RS) : (l.foldl (markS M t) s).act = s.act ∧ (l.foldl (markS M t) s).use = s.use ∧ (l.foldl (markS M t) s).clk = s.clk := by
  induction l generalizing s with
  | nil => exact ⟨rfl, rfl, rfl⟩
  | cons a l ih =>
    obtain ⟨h1, h2, h3⟩ := ih (markS M t s a)
    obtain ⟨g1, g2, g3⟩ := markS_act (M := M) (s := s) t a
    exact ⟨h1.trans g1, h2.trans g2, h3.trans g3⟩
theorem offS_act (d : Nat) : (offS M s d).act = setF s.act d false ∧ (offS M s d).use = s.use ∧ (offS M s d).clk = s.clk := marks_act _ _ _
theorem nAct_off {d : Nat} (hd : d < M.n) (h : s.act d = true) : nAct M (offS M s d) < nAct M s := by
  unfold nAct
  rw [(offS_act d).1]
  have hsub : (List.range M.n).filter (setF s.act d false) = ((List.range M.n).filter s.act).filter (fun i => !(i == d)) := by
    rw [List.filter_filter]
    apply List.filter_congr
    intro i _
    unfold setF
    by_cases e : i = d
    · simp [e]
    · simp [e]
  rw [hsub]
  apply List.length_filter_lt_length_iff_exists.2
  exact ⟨d, List.mem_filter.2 ⟨List.mem_range.2 hd, h⟩, by simp⟩
theorem expK_use (lim : Nat) : ∀ (k : Nat) (s : RS) (ops : List POp), (expK M lim k s ops).1.use = s.use ∧ (expK M lim k s ops).1.clk = s.clk
  | 0, s, ops => ⟨rfl, rfl⟩
  | k + 1, s, ops => by
    unfold expK
    split
    · exact ⟨rfl, rfl⟩
    · rename_i d _
      split
      · exact ⟨rfl, rfl⟩
      · obtain ⟨h1, h2⟩ := expK_use lim k (offS M s d) (ops ++ [⟨d, false, exy M s d⟩])
        exact ⟨h1.trans (offS_act d).2.1, h2.trans (offS_act d).2.2⟩
theorem expK_len (lim : Nat) : ∀ (k : Nat) (s : RS) (ops : List POp), (expK M lim k s ops).2.length ≤ ops.length + nAct M s
  | 0, s, ops => by unfold expK; exact Nat.le_add_right _ _
  | k + 1, s, ops => by
    unfold expK
    split
    · exact Nat.le_add_right _ _
    · rename_i d hd
      split
      · exact Nat.le_add_right _ _
      · have h := expK_len lim k (offS M s d) (ops ++ [⟨d, false, exy M s d⟩])
        obtain ⟨h1, h2, -⟩ := fstTo_some hd
        have h3 := nAct_off h1 (idl_act h2)
        rw [List.length_append, List.length_singleton] at h
        omega
theorem nAct_le (M : RM) (s : RS) : nAct M s ≤ M.n := by
  unfold nAct
  exact Nat.le_trans (List.length_filter_le _ _) (by simp)
end
end Go.Proofs.Ytdocdgghphhdpaa

