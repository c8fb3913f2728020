/- A manager in memory. -/
import Derived.Test.YtbnfdpemfmeldaaMgRuntimeNew0
import Derived.Test.YtbnfdpemfmeldaaProg
import Derived.Deep.QuietTactic
import Derived.BigQuiet
import Derived.Lib.Hide
import Derived.Deep.LoopGhost
namespace Go.Proofs.Ytbnfdpemfmeldaa
open Go.RowKit

theorem rng_get (f : Nat → List Value) {m : Nat} (hf : ∀ a, (f a).length = m) {n i j : Nat} (hi : i < n) (hj : j < m) : ((List.range n).flatMap f)[i * m + j]? = (f i)[j]? :=
  flat_get hf (by rw [List.getElem?_range hi]) hj
theorem rng_set (f f' : Nat → List Value) {m : Nat} (hf : ∀ a, (f a).length = m) (hf' : ∀ a, (f' a).length = m) {n i j : Nat} (_hi : i < n) (hj : j < m) (v : Value) (h1 : f' i = (f i).set j v) (h2 : ∀ q, q ≠ i → f' q = f q) :
    ((List.range n).flatMap f).set (i * m + j) v = (List.range n).flatMap f' := by
  apply List.ext_getElem?
  intro t
  have l1 : ((List.range n).flatMap f).length = n * m := by rw [flat_length hf]; simp
  have l2 : ((List.range n).flatMap f').length = n * m := by rw [flat_length hf']; simp
  by_cases ht : t < n * m
  · have hm : 0 < m := by omega
    have hq : t / m < n := Nat.div_lt_of_lt_mul (by rw [Nat.mul_comm]; exact ht)
    have hr : t % m < m := Nat.mod_lt t hm
    have hd : t / m * m + t % m = t := by rw [Nat.mul_comm]; exact Nat.div_add_mod t m
    have e1 := rng_get f hf hq hr
    have e2 := rng_get f' hf' hq hr
    rw [hd] at e1 e2
    rw [e2, List.getElem?_set]
    by_cases hx : i * m + j = t
    · have h3 : t / m = i := by
        rw [← hx, Nat.mul_comm, Nat.mul_add_div hm, Nat.div_eq_of_lt hj]
        omega
      have h4 : t % m = j := by
        rw [← hx, Nat.mul_comm, Nat.mul_add_mod, Nat.mod_eq_of_lt hj]
      rw [if_pos hx, h3, h4, h1, if_pos (by rw [hx, l1]; exact ht), List.getElem?_set_self (by rw [hf]; exact hj)]
    · rw [if_neg hx, e1]
      by_cases h3 : t / m = i
      · have h4 : t % m ≠ j := fun h4 => hx (by rw [← h3, ← h4]; exact hd)
        rw [h3, h1, List.getElem?_set_ne (Ne.symm h4)]
      · rw [h2 _ h3]
  · rw [List.getElem?_eq_none (by rw [List.length_set, l1]; omega), List.getElem?_eq_none (by rw [l2]; omega)]
abbrev uv (n : Nat) : Value := .int .u64 (n : Int)
/-- The cells of a device's state. -/
def stv (S C : Nat → Value) (M : RM) (s : RS) (i : Nat) : List Value := [S i, C i, uv (M.dl i), .bool (s.act i), nv (s.use i), uv (s.sin i)]
theorem stv_len (S C : Nat → Value) (M : RM) (s : RS) (i : Nat) : (stv S C M s i).length = 6 := rfl
def stvs (S C : Nat → Value) (M : RM) (s : RS) : Array Value := ((List.range M.n).flatMap (stv S C M s)).toArray
theorem stvs_get (S C : Nat → Value) (M : RM) (s : RS) {i j : Nat} (hi : i < M.n) (hj : j < 6) : (stvs S C M s)[i * 6 + j]? = (stv S C M s i)[j]? := by
  unfold stvs
  rw [List.getElem?_toArray]
  exact rng_get _ (stv_len S C M s) hi hj
theorem stvs_act (S C : Nat → Value) (M : RM) (s : RS) {i : Nat} (hi : i < M.n) (b : Bool) : (stvs S C M s).setIfInBounds (i * 6 + 3) (.bool b) = stvs S C M { s with act := setF s.act i b } := by
  unfold stvs
  rw [List.setIfInBounds_toArray, rng_set _ (stv S C M { s with act := setF s.act i b }) (stv_len S C M s) (stv_len _ _ _ _) hi (by omega) _ (by simp [stv, setF]) (fun q hq => by simp [stv, setF, hq])]
theorem stvs_use (S C : Nat → Value) (M : RM) (s : RS) {i : Nat} (hi : i < M.n) (u : Nat) : (stvs S C M s).setIfInBounds (i * 6 + 4) (nv u) = stvs S C M (useS s i u) := by
  unfold stvs useS
  rw [List.setIfInBounds_toArray, rng_set _ (stv S C M { s with use := setF s.use i u }) (stv_len S C M s) (stv_len _ _ _ _) hi (by omega) _ (by simp [stv, setF]) (fun q hq => by simp [stv, setF, hq])]
theorem stvs_sin (S C : Nat → Value) (M : RM) (s : RS) {i : Nat} (hi : i < M.n) (t : Nat) : (stvs S C M s).setIfInBounds (i * 6 + 5) (uv t) = stvs S C M { s with sin := setF s.sin i t } := by
  unfold stvs
  rw [List.setIfInBounds_toArray, rng_set _ (stv S C M { s with sin := setF s.sin i t }) (stv_len S C M s) (stv_len _ _ _ _) hi (by omega) _ (by simp [stv, setF]) (fun q hq => by simp [stv, setF, hq])]
/-- Where the manager lies: its block, its table of states, the lists' slices; all of it below block top. -/
structure ML where
  b : Nat
  g : Nat
  top : Nat
  bot : Nat
  cg : Nat
  Ao : Option Addr
  co : Nat
  S : Nat → Value
  C : Nat → Value
def Lows (P : ML) (A : Option Addr) : Prop := ∀ ad, A = some ad → ad.block ≠ P.b ∧ ad.block ≠ P.g ∧ ad.block < P.top ∧ P.bot ≤ ad.block
structure MgIn (w : World) (P : ML) (M : RM) (s : RS) : Prop where
  blk : Blk w P.b 74 #[.slice (some ⟨P.g, 0, none⟩) M.n P.cg, .slice P.Ao M.ord.length P.co, uv s.clk]
  row : Blk w P.g 76 (stvs P.S P.C M s)
  sup : ∀ i, i < M.n → ∃ A c, P.S i = .slice A (supL M.L i).length c ∧ Row w A ((supL M.L i).map nv) ∧ Lows P A
  con : ∀ i, i < M.n → ∃ A c, P.C i = .slice A (conL M.L i).length c ∧ Row w A ((conL M.L i).map nv) ∧ Lows P A
  ord : Row w P.Ao (M.ord.map nv) ∧ Lows P P.Ao
  low : P.b < P.top ∧ P.g < P.top
  bot : P.bot ≤ P.b ∧ P.bot ≤ P.g
/-- Blocks that a call of the manager may turn: its own two, and those from base on. -/
def FrM (P : ML) (base : Nat) (w w' : World) : Prop := ∃ T : List Nat, (∀ i ∈ T, i = P.b ∨ i = P.g ∨ base ≤ i) ∧ Fr T w w'
theorem FrM.of_fr {P : ML} {base : Nat} {w w' : World} (h : Fr [] w w') : FrM P base w w' := ⟨[], by simp, h⟩
theorem FrM.refl (P : ML) (base : Nat) (w : World) : FrM P base w w := .of_fr (Fr.refl _ _)
theorem FrM.trans {P : ML} {base : Nat} {a w w' : World} (h : FrM P base a w) (k : FrM P base w w') : FrM P base a w' := by
  obtain ⟨S, h1, h2⟩ := h
  obtain ⟨T, k1, k2⟩ := k
  exact ⟨S ++ T, fun i hi => (List.mem_append.1 hi).elim (h1 i) (k1 i), (h2.mono (fun i _ hi => List.mem_append_left _ hi)).trans (k2.mono (fun i _ hi => List.mem_append_right _ hi))⟩
theorem FrM.call {P : ML} {base : Nat} {a w w' : World} (h : FrM P base a w) (k : Fr [] w w') : FrM P base a w' := h.trans (.of_fr k)
theorem FrM.set {P : ML} {base : Nat} {a w : World} (h : FrM P base a w) {p : Addr} (hp : p.block = P.b ∨ p.block = P.g ∨ base ≤ p.block) (u : Value) : FrM P base a (w.setCell p u) :=
  h.trans ⟨[p.block], by simpa using hp, (Fr.refl _ _).set (.inl (by simp)) u⟩
theorem FrM.size {P : ML} {base : Nat} {w w' : World} (h : FrM P base w w') : w.heap.size ≤ w'.heap.size := by
  obtain ⟨S, _, h⟩ := h
  exact h.size
/-- At the base of the world itself: only the two blocks. -/
theorem FrM.two {P : ML} {w w' : World} (h : FrM P w.heap.size w w') : Fr [P.b, P.g] w w' := by
  obtain ⟨T, h1, h2⟩ := h
  exact h2.mono (fun k hk hm => by
    rcases h1 k hm with h | h | h
    · simp [h]
    · simp [h]
    · omega)
theorem FrM.mono {P : ML} {base base' : Nat} {w w' : World} (h : FrM P base w w') (hb : base' ≤ base) : FrM P base' w w' := by
  obtain ⟨T, h1, h2⟩ := h
  exact ⟨T, fun i hi => by rcases h1 i hi with h | h | h
                           · exact .inl h
                           · exact .inr (.inl h)
                           · exact .inr (.inr (by omega)), h2⟩
/-- The numbers of a manager are small. -/
structure MOk (M : RM) : Prop where
  n : M.n ≤ 64
  L : ∀ p ∈ M.L, p.1 < M.n ∧ p.2 < M.n
  len : M.L.length ≤ 1024
  dl : ∀ i, M.dl i ≤ 1048576
  ord : ∀ i ∈ M.ord, i < M.n
  ol : M.ord.length = M.n
structure SOk (M : RM) (s : RS) : Prop where
  sin : ∀ i, s.sin i ≤ 1152921504606846976
  use : ∀ i, s.use i ≤ 4096
  clk : s.clk ≤ 1152921504606846976
theorem supL_len (L : List (Nat × Nat)) (i : Nat) : (supL L i).length ≤ L.length := by
  unfold supL
  rw [List.length_map]
  exact List.length_filter_le _ _
theorem conL_len (L : List (Nat × Nat)) (i : Nat) : (conL L i).length ≤ L.length := by
  unfold conL
  rw [List.length_map]
  exact List.length_filter_le _ _
section
variable {w w' : World} {P : ML} {M : RM} {s : RS}
/-- A step that turned only blocks above the manager. -/
theorem MgIn.fr (h : MgIn w P M s) {T : List Nat} (k : Fr T w w') (ht : ∀ i ∈ T, P.top ≤ i) : MgIn w' P M s := by
  have hb : P.b ∉ T := fun hm => by have := ht _ hm; have := h.low.1; omega
  have hg : P.g ∉ T := fun hm => by have := ht _ hm; have := h.low.2; omega
  have hl : ∀ A, Lows P A → Off A T := fun A hA ad e hm => by have := ht _ hm; have := (hA ad e).2.2.1; omega
  refine ⟨h.blk.fr k hb, h.row.fr k hg, fun i hi => ?_, fun i hi => ?_, ⟨h.ord.1.fr k (hl _ h.ord.2), h.ord.2⟩, h.low, h.bot⟩
  · obtain ⟨A, c, e, hr, hf⟩ := h.sup i hi
    exact ⟨A, c, e, hr.fr k (hl _ hf), hf⟩
  · obtain ⟨A, c, e, hr, hf⟩ := h.con i hi
    exact ⟨A, c, e, hr.fr k (hl _ hf), hf⟩
/-- A step that turned only blocks below the manager. -/
theorem MgIn.frL (h : MgIn w P M s) {T : List Nat} (k : Fr T w w') (ht : ∀ i ∈ T, i < P.bot) : MgIn w' P M s := by
  have hb : P.b ∉ T := fun hm => by have := ht _ hm; have := h.bot.1; omega
  have hg : P.g ∉ T := fun hm => by have := ht _ hm; have := h.bot.2; omega
  have hl : ∀ A, Lows P A → Off A T := fun A hA ad e hm => by have := ht _ hm; have := (hA ad e).2.2.2; omega
  refine ⟨h.blk.fr k hb, h.row.fr k hg, fun i hi => ?_, fun i hi => ?_, ⟨h.ord.1.fr k (hl _ h.ord.2), h.ord.2⟩, h.low, h.bot⟩
  · obtain ⟨A, c, e, hr, hf⟩ := h.sup i hi
    exact ⟨A, c, e, hr.fr k (hl _ hf), hf⟩
  · obtain ⟨A, c, e, hr, hf⟩ := h.con i hi
    exact ⟨A, c, e, hr.fr k (hl _ hf), hf⟩
theorem MgIn.fr0 (h : MgIn w P M s) (k : Fr [] w w') : MgIn w' P M s := h.fr k (by simp)
theorem MgIn.ne (h : MgIn w P M s) : P.b ≠ P.g := Blk.ne_ h.blk h.row (by decide)
/-- The table has turned at one device. -/
theorem MgIn.put (h : MgIn w P M s) {s' : RS} {i j : Nat} {u : Value} (hset : (stvs P.S P.C M s).setIfInBounds (i * 6 + j) u = stvs P.S P.C M s') (hc : s'.clk = s.clk) : MgIn (w.setCell ⟨P.g, i * 6 + j, none⟩ u) P M s' := by
  have k : Fr [P.g] w (w.setCell ⟨P.g, i * 6 + j, none⟩ u) := (Fr.refl _ _).set (.inl (by simp)) u
  have hl : ∀ A, Lows P A → Off A [P.g] := fun A hA ad e hm => (hA ad e).2.1 (List.mem_singleton.1 hm)
  refine ⟨?_, ?_, fun i hi => ?_, fun i hi => ?_, ⟨h.ord.1.fr k (hl _ h.ord.2), h.ord.2⟩, h.low, h.bot⟩
  · rw [hc]
    exact h.blk.fr k (by simpa using h.ne)
  · rw [← hset]
    exact h.row.set_ _ _
  · obtain ⟨A, c, e, hr, hf⟩ := h.sup i hi
    exact ⟨A, c, e, hr.fr k (hl _ hf), hf⟩
  · obtain ⟨A, c, e, hr, hf⟩ := h.con i hi
    exact ⟨A, c, e, hr.fr k (hl _ hf), hf⟩
/-- The clock has turned. -/
theorem MgIn.tick (h : MgIn w P M s) (t : Nat) : MgIn (w.setCell ⟨P.b, 2, none⟩ (uv t)) P M { s with clk := t } := by
  have k : Fr [P.b] w (w.setCell ⟨P.b, 2, none⟩ (uv t)) := (Fr.refl _ _).set (.inl (by simp)) _
  have hl : ∀ A, Lows P A → Off A [P.b] := fun A hA ad e hm => (hA ad e).1 (List.mem_singleton.1 hm)
  refine ⟨h.blk.set_ _ _, h.row.fr k (by simpa using h.ne.symm), fun i hi => ?_, fun i hi => ?_, ⟨h.ord.1.fr k (hl _ h.ord.2), h.ord.2⟩, h.low, h.bot⟩
  · obtain ⟨A, c, e, hr, hf⟩ := h.sup i hi
    exact ⟨A, c, e, hr.fr k (hl _ hf), hf⟩
  · obtain ⟨A, c, e, hr, hf⟩ := h.con i hi
    exact ⟨A, c, e, hr.fr k (hl _ hf), hf⟩
theorem MgIn.cell (h : MgIn w P M s) {i j : Nat} (hi : i < M.n) (hj : j < 6) : w.cell? ⟨P.g, i * 6 + j, none⟩ = (stv P.S P.C M s i)[j]? := (h.row.cell _).trans (stvs_get _ _ _ _ hi hj)
theorem MgIn.frozen (h : MgIn w P M s) (k : Nat) : w.frozen? ⟨P.g, k, none⟩ = false := h.row.frozen k
end
end Go.Proofs.Ytbnfdpemfmeldaa

