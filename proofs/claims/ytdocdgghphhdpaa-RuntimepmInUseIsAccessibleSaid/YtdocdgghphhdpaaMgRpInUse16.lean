/- A manager in memory. -/
import Derived.Test.YtdocdgghphhdpaaMgRpInUse15
import Derived.Test.YtdocdgghphhdpaaMgRpInUse0
import Derived.Test.YtdocdgghphhdpaaProg
import Derived.Deep.QuietTactic
import Derived.BigQuiet
import Derived.Lib.Hide
import Derived.Deep.LoopGhost
import Derived.Test.YtdocdgghphhdpaaMgRpInUse12
namespace Go.Proofs.Ytdocdgghphhdpaa
open Go.RowKit

theorem rng_get (f : Nat → List Value) {m : Nat} (hf : ∀ a, (f a).length = m) {n i j : Nat} (hi : i < n) (hj : j < m) : ((List.range n).flatMap f)[i * m + j]? = (f i)[j]? :=
  flat_get hf (by rw [List.getElem?_range hi]) hj
theorem rng_set (f f' : Nat → List Value) {m : Nat} (hf : ∀ a, (f a).length = m) (hf' : ∀ a, (f' a).length = m) {n i j : Nat} (_hi : i < n) (hj : j < m) (v : Value) (h1 : f' i = (f i).set j v) (h2 : ∀ q, q ≠ i → f' q = f q) :
    ((List.range n).flatMap f).set (i * m + j) v = (List.range n).flatMap f' := by
  apply List.ext_getElem?
  intro t
  have l1 : ((List.range n).flatMap f).length = n * m := by rw [flat_length hf]; simp
  have l2 : ((List.range n).flatMap f').length = n * m := by rw [flat_length hf']; simp
  by_cases ht : t < n * m
  · have hm : 0 < m := by omega
    have hq : t / m < n := Nat.div_lt_of_lt_mul (by rw [Nat.mul_comm]; exact ht)
    have hr : t % m < m := Nat.mod_lt t hm
    have hd : t / m * m + t % m = t := by rw [Nat.mul_comm]; exact Nat.div_add_mod t m
    have e1 := rng_get f hf hq hr
    have e2 := rng_get f' hf' hq hr
    rw [hd] at e1 e2
    rw [e2, List.getElem?_set]
    by_cases hx : i * m + j = t
    · have h3 : t / m = i := by
        rw [← hx, Nat.mul_comm, Nat.mul_add_div hm, Nat.div_eq_of_lt hj]
        omega
      have h4 : t % m = j := by
        rw [← hx, Nat.mul_comm, Nat.mul_add_mod, Nat.mod_eq_of_lt hj]
      rw [if_pos hx, h3, h4, h1, if_pos (by rw [hx, l1]; exact ht), List.getElem?_set_self (by rw [hf]; exact hj)]
    · rw [if_neg hx, e1]
      by_cases h3 : t / m = i
      · have h4 : t % m ≠ j := fun h4 => hx (by rw [← h3, ← h4]; exact hd)
        rw [h3, h1, List.getElem?_set_ne (Ne.symm h4)]
      · rw [h2 _ h3]
  · rw [List.getElem?_eq_none (by rw [List.length_set, l1]; omega), List.getElem?_eq_none (by rw [l2]; omega)]
abbrev uv (n : Nat) : Value := .int .u64 (n : Int)
/-- The cells of a device's state. -/
def stv (S C : Nat → Value) (M : RM) (s : RS) (i : Nat) : List Value := [S i, C i, uv (M.dl i), .bool (s.act i), nv (s.use i), uv (s.sin i)]
theorem stv_len (S C : Nat → Value) (M : RM) (s : RS) (i : Nat) : (stv S C M s i).length = 6 := rfl
def stvs (S C : Nat → Value) (M : RM) (s : RS) : Array Value := ((List.range M.n).flatMap (stv S C M s)).toArray
theorem stvs_get (S C : Nat → Value) (M : RM) (s : RS) {i j : Nat} (hi : i < M.n) (hj : j < 6) : (stvs S C M s)[i * 6 + j]? = (stv S C M s i)[j]? := by
  unfold stvs
  rw [List.getElem?_toArray]
  exact rng_get _ (stv_len S C M s) hi hj
theorem stvs_act (S C : Nat → Value) (M : RM) (s : RS) {i : Nat} (hi : i < M.n) (b : Bool) : (stvs S C M s).setIfInBounds (i * 6 + 3) (.bool b) = stvs S C M { s with act := setF s.act i b } := by
  unfold stvs
  rw [List.setIfInBounds_toArray, rng_set _ (stv S C M { s with act := setF s.act i b }) (stv_len S C M s) (stv_len _ _ _ _) hi (by omega) _ (by simp [stv, setF]) (fun q hq => by simp [stv, setF, hq])]
theorem stvs_use (S C : Nat → Value) (M : RM) (s : RS) {i : Nat} (hi : i < M.n) (u : Nat) : (stvs S C M s).setIfInBounds (i * 6 + 4) (nv u) = stvs S C M (useS s i u) := by
  unfold stvs useS
  rw [List.setIfInBounds_toArray, rng_set _ (stv S C M { s with use := setF s.use i u }) (stv_len S C M s) (stv_len _ _ _ _) hi (by omega) _ (by simp [stv, setF]) (fun q hq => by simp [stv, setF, hq])]
theorem stvs_sin (S C : Nat → Value) (M : RM) (s : RS) {i : Nat} (hi : i < M.n) (t : Nat) : (stvs S C M s).setIfInBounds (i * 6 + 5) (uv t) = stvs S C M { s with sin := setF s.sin i t } := by
  unfold stvs
  rw [List.setIfInBounds_toArray, rng_set _ (stv S C M { s with sin := setF s.sin i t }) (stv_len S C M s) (stv_len _ _ _ _) hi (by omega) _ (by simp [stv, setF]) (fun q hq => by simp [stv, setF, hq])]
/-- Where the manager lies: its block, its table of states, the lists' slices; all of it below block top. -/
structure ML where
  b : Nat
  g : Nat
  top : Nat
  bot : Nat
  cg : Nat
  Ao : Option Addr
  co : Nat
  S : Nat → Value
  C : Nat → Value
def Lows (P : ML) (A : Option Addr) : Prop := ∀ ad, A = some ad → ad.block ≠ P.b ∧ ad.block ≠ P.g ∧ ad.block < P.top ∧ P.bot ≤ ad.block
structure MgIn (w : World) (P : ML) (M : RM) (s : RS) : Prop where
  blk : Blk w P.b 151 #[.slice (some ⟨P.g, 0, none⟩) M.n P.cg, .slice P.Ao M.ord.length P.co, uv s.clk]
  row : Blk w P.g 153 (stvs P.S P.C M s)
  sup : ∀ i, i < M.n → ∃ A c, P.S i = .slice A (supL M.L i).length c ∧ Row w A ((supL M.L i).map nv) ∧ Lows P A
  con : ∀ i, i < M.n → ∃ A c, P.C i = .slice A (conL M.L i).length c ∧ Row w A ((conL M.L i).map nv) ∧ Lows P A
  ord : Row w P.Ao (M.ord.map nv) ∧ Lows P P.Ao
  low : P.b < P.top ∧ P.g < P.top
  bot : P.bot ≤ P.b ∧ P.bot ≤ P.g
/-- Blocks that a call of the manager may turn: its own two, and those from base on. -/
def FrM (P : ML) (base : Nat) (w w' : World) : Prop := ∃ T : List Nat, (∀ i ∈ T, i = P.b ∨ i = P.g ∨ base ≤ i) ∧ Fr T w w'
theorem FrM.of_fr {P : ML} {base : Nat} {w w' : World} (h : Fr [] w w') : FrM P base w w' := ⟨[], by simp, h⟩
theorem FrM.refl (P : ML) (base : Nat) (w : World) : FrM P base w w := .of_fr (Fr.refl _ _)
theorem FrM.trans {P : ML} {base : Nat} {a w w' : World} (h : FrM P base a w) (k : FrM P base w w') : FrM P base a w' := by
  obtain ⟨S, h1, h2⟩ := h
  obtain ⟨T, k1, k2⟩ := k
  exact ⟨S ++ T, fun i hi => (List.mem_append.1 hi).elim (h1 i) (k1 i), (h2.mono (fun i _ hi => List.mem_append_left _ hi)).trans (k2.mono (fun i _ hi => List.mem_append_right _ hi))⟩
theorem FrM.call {P : ML} {base : Nat} {a w w' : World} (h : FrM P base a w) (k : Fr [] w w') : FrM P base a w' := h.trans (.of_fr k)
theorem FrM.set {P : ML} {base : Nat} {a w : World} (h : FrM P base a w) {p : Addr} (hp : p.block = P.b ∨ p.block = P.g ∨ base ≤ p.block) (u : Value) : FrM P base a (w.setCell p u) :=
  h.trans ⟨[p.block], by simpa using hp, (Fr.refl _ _).set (.inl (by simp)) u⟩
theorem FrM.size {P : ML} {base : Nat} {w w' : World} (h : FrM P base w w') : w.heap.size ≤ w'.heap.size := by
  obtain ⟨S, _, h⟩ := h
  exact h.size
/-- At the base of the world itself: only the two blocks. -/
theorem FrM.two {P : ML} {w w' : World} (h : FrM P w.heap.size w w') : Fr [P.b, P.g] w w' := by
  obtain ⟨T, h1, h2⟩ := h
  exact h2.mono (fun k hk hm => by
    rcases h1 k hm with h | h | h
    · simp [h]
    · simp [h]
    · omega)
theorem FrM.mono {P : ML} {base base' : Nat} {w w' : World} (h : FrM P base w w') (hb : base' ≤ base) : FrM P base' w w' := by
  obtain ⟨T, h1, h2⟩ := h
  exact ⟨T, fun i hi => by rcases h1 i hi with h | h | h
                           · exact .inl h
                           · exact .inr (.inl h)
                           · exact .inr (.inr (by omega)), h2⟩
/-- The numbers of a manager are small. -/
structure MOk (M : RM) : Prop where
  n : M.n ≤ 64
  L : ∀ p ∈ M.L, p.1 < M.n ∧ p.2 < M.n
  len : M.L.length ≤ 1024
  dl : ∀ i, M.dl i ≤ 1048576
  ord : ∀ i ∈ M.ord, i < M.n
  ol : M.ord.length = M.n
structure SOk (M : RM) (s : RS) : Prop where
  sin : ∀ i, s.sin i ≤ 1152921504606846976
  use : ∀ i, s.use i ≤ 4096
  clk : s.clk ≤ 1152921504606846976
theorem supL_len (L : List (Nat × Nat)) (i : Nat) : (supL L i).length ≤ L.length := by
  unfold supL
  rw [List.length_map]
  exact List.length_filter_le _ _
theorem conL_len (L : List (Nat × Nat)) (i : Nat) : (conL L i).length ≤ L.length := by
  unfold conL
  rw [List.length_map]
  exact List.length_filter_le _ _
section
variable {w w' : World} {P : ML} {M : RM} {s : RS}
/-- A step that turned only blocks above the manager. -/
theorem MgIn.fr (h : MgIn w P M s) {T : List Nat} (k : Fr T w w') (ht : ∀ i ∈ T, P.top ≤ i) : MgIn w' P M s := by
  have hb : P.b ∉ T := fun hm => by have := ht _ hm; have := h.low.1; omega
  have hg : P.g ∉ T := fun hm => by have := ht _ hm; have := h.low.2; omega
  have hl : ∀ A, Lows P A → Off A T := fun A hA ad e hm => by have := ht _ hm; have := (hA ad e).2.2.1; omega
  refine ⟨h.blk.fr k hb, h.row.fr k hg, fun i hi => ?_, fun i hi => ?_, ⟨h.ord.1.fr k (hl _ h.ord.2), h.ord.2⟩, h.low, h.bot⟩
  · obtain ⟨A, c, e, hr, hf⟩ := h.sup i hi
    exact ⟨A, c, e, hr.fr k (hl _ hf), hf⟩
  · obtain ⟨A, c, e, hr, hf⟩ := h.con i hi
    exact ⟨A, c, e, hr.fr k (hl _ hf), hf⟩
/-- A step that turned only blocks below the manager. -/
theorem MgIn.frL (h : MgIn w P M s) {T : List Nat} (k : Fr T w w') (ht : ∀ i ∈ T, i < P.bot) : MgIn w' P M s := by
  have hb : P.b ∉ T := fun hm => by have := ht _ hm; have := h.bot.1; omega
  have hg : P.g ∉ T := fun hm => by have := ht _ hm; have := h.bot.2; omega
  have hl : ∀ A, Lows P A → Off A T := fun A hA ad e hm => by have := ht _ hm; have := (hA ad e).2.2.2; omega
  refine ⟨h.blk.fr k hb, h.row.fr k hg, fun i hi => ?_, fun i hi => ?_, ⟨h.ord.1.fr k (hl _ h.ord.2), h.ord.2⟩, h.low, h.bot⟩
  · obtain ⟨A, c, e, hr, hf⟩ := h.sup i hi
    exact ⟨A, c, e, hr.fr k (hl _ hf), hf⟩
  · obtain ⟨A, c, e, hr, hf⟩ := h.con i hi
    exact ⟨A, c, e, hr.fr k (hl _ hf), hf⟩
theorem MgIn.fr0 (h : MgIn w P M s) (k : Fr [] w w') : MgIn w' P M s := h.fr k (by simp)
theorem MgIn.ne (h : MgIn w P M s) : P.b ≠ P.g := Blk.ne_ h.blk h.row (by decide)
/-- The table has turned at one device. -/
theorem MgIn.put (h : MgIn w P M s) {s' : RS} {i j : Nat} {u : Value} (hset : (stvs P.S P.C M s).setIfInBounds (i * 6 + j) u = stvs P.S P.C M s') (hc : s'.clk = s.clk) : MgIn (w.setCell ⟨P.g, i * 6 + j, none⟩ u) P M s' := by
  have k : Fr [P.g] w (w.setCell ⟨P.g, i * 6 + j, none⟩ u) := (Fr.refl _ _).set (.inl (by simp)) u
  have hl : ∀ A, Lows P A → Off A [P.g] := fun A hA ad e hm => (hA ad e).2.1 (List.mem_singleton.1 hm)
  refine ⟨?_, ?_, fun i hi => ?_, fun i hi => ?_, ⟨h.ord.1.fr k (hl _ h.ord.2), h.ord.2⟩, h.low, h.bot⟩
  · rw [hc]
    exact h.blk.fr k (by simpa using h.ne)
  · rw [← hset]
    exact h.row.set_ _ _
  · obtain ⟨A, c, e, hr, hf⟩ := h.sup i hi
    exact ⟨A, c, e, hr.fr k (hl _ hf), hf⟩
  · obtain ⟨A, c, e, hr, hf⟩ := h.con i hi
    exact ⟨A, c, e, hr.fr k (hl _ hf), hf⟩
/-- The clock has turned. -/
theorem MgIn.tick (h : MgIn w P M s) (t : Nat) : MgIn (w.setCell ⟨P.b, 2, none⟩ (uv t)) P M { s with clk := t } := by
  have k : Fr [P.b] w (w.setCell ⟨P.b, 2, none⟩ (uv t)) := (Fr.refl _ _).set (.inl (by simp)) _
  have hl : ∀ A, Lows P A → Off A [P.b] := fun A hA ad e hm => (hA ad e).1 (List.mem_singleton.1 hm)
  refine ⟨h.blk.set_ _ _, h.row.fr k (by simpa using h.ne.symm), fun i hi => ?_, fun i hi => ?_, ⟨h.ord.1.fr k (hl _ h.ord.2), h.ord.2⟩, h.low, h.bot⟩
  · obtain ⟨A, c, e, hr, hf⟩ := h.sup i hi
    exact ⟨A, c, e, hr.fr k (hl _ hf), hf⟩
  · obtain ⟨A, c, e, hr, hf⟩ := h.con i hi
    exact ⟨A, c, e, hr.fr k (hl _ hf), hf⟩
theorem MgIn.cell (h : MgIn w P M s) {i j : Nat} (hi : i < M.n) (hj : j < 6) : w.cell? ⟨P.g, i * 6 + j, none⟩ = (stv P.S P.C M s i)[j]? := (h.row.cell _).trans (stvs_get _ _ _ _ hi hj)
theorem MgIn.frozen (h : MgIn w P M s) (k : Nat) : w.frozen? ⟨P.g, k, none⟩ = false := h.row.frozen k
end
end Go.Proofs.Ytdocdgghphhdpaa

/- Plain laws of run-time power management: what a call's operations do. No program is in sight here. -/
namespace Go.Proofs.Ytdocdgghphhdpaa

section
variable {M : RM} {s : RS}
theorem idl_iff {i : Nat} : idl M s i = true ↔ s.act i = true ∧ s.use i = 0 ∧ ∀ c, (c, i) ∈ M.L → s.act c = false := by
  unfold idl
  simp only [Bool.and_eq_true, beq_iff_eq, List.all_eq_true, Bool.not_eq_true']
  exact ⟨fun ⟨h1, h2, h3⟩ => ⟨h1, h2, fun c hc => h3 c (mem_conL.2 hc)⟩, fun ⟨h1, h2, h3⟩ => ⟨h1, h2, fun c hc => h3 c (mem_conL.1 hc)⟩⟩
theorem idl_congr {s' : RS} {i : Nat} (h1 : s.act = s'.act) (h2 : s.use = s'.use) : idl M s i = idl M s' i := by
  unfold idl
  rw [h1, h2]
theorem marks_sin (t : Nat) : ∀ (l : List Nat) (s : RS) (x : Nat), (l.foldl (markS M t) s).sin x = if x ∈ l ∧ idl M s x = true then t else s.sin x
  | [], s, x => by simp
  | a :: l, s, x => by
    rw [List.foldl_cons, marks_sin t l]
    obtain ⟨g1, g2, -⟩ := markS_act (M := M) (s := s) t a
    rw [idl_congr (s := markS M t s a) (s' := s) g1 g2]
    by_cases hx : idl M s x = true
    · by_cases h1 : x ∈ l
      · rw [if_pos ⟨h1, hx⟩, if_pos ⟨List.mem_cons_of_mem _ h1, hx⟩]
      · rw [if_neg (fun h => h1 h.1)]
        unfold markS
        by_cases e : x = a
        · subst e
          rw [if_pos hx, if_pos ⟨List.mem_cons_self .., hx⟩]
          exact setF_self _ _ _
        · rw [if_neg (show ¬ (x ∈ a :: l ∧ idl M s x = true) from fun h => (List.mem_cons.1 h.1).elim e h1)]
          split
          · exact setF_ne _ _ e
          · rfl
    · rw [if_neg (fun h => hx h.2), if_neg (fun h => hx h.2)]
      unfold markS
      split
      · rename_i ha
        refine setF_ne _ _ (fun e => hx (by rw [e]; exact ha))
      · rfl
theorem offS_sin (d x : Nat) : (offS M s d).sin x = if x ∈ supL M.L d ∧ idl M { s with act := setF s.act d false } x = true then exy M s d else s.sin x := marks_sin _ _ _ _
theorem offS_idl {d x : Nat} : idl M (offS M s d) x = idl M { s with act := setF s.act d false } x := idl_congr (offS_act d).1 (offS_act d).2.1
/-- Every idle device expires at t or later. -/
def Late (M : RM) (s : RS) (t : Nat) : Prop := ∀ i, idl M s i = true → t ≤ exy M s i
/-- Suppliers of active devices are active, devices in use are active, only devices are active. -/
structure Up (M : RM) (s : RS) : Prop where
  sup : ∀ p ∈ M.L, s.act p.1 = true → s.act p.2 = true
  use : ∀ i, 0 < s.use i → s.act i = true
  dom : ∀ i, s.act i = true → i < M.n
theorem Up.idl_lt (h : Up M s) {i : Nat} (hi : idl M s i = true) : i < M.n := h.dom i (idl_act hi)
theorem first_all (h : Up M s) {d : Nat} (hf : fstM M s = some d) : d < M.n ∧ idl M s d = true ∧ Late M s (exy M s d) := by
  obtain ⟨h1, h2, h3⟩ := fstTo_some hf
  exact ⟨h1, h2, fun i hi => h3 i (h.idl_lt hi) hi⟩
theorem first_none (h : Up M s) (hf : fstM M s = none) (i : Nat) : idl M s i = false := by
  cases hi : idl M s i with
  | false => rfl
  | true => rw [← hi]; exact fstTo_none hf i (h.idl_lt hi)
theorem setF_off {f : Nat → Bool} {d i : Nat} (h : setF f d false i = true) : i ≠ d ∧ f i = true := by
  unfold setF at h
  split at h
  · cases h
  · rename_i hne
    exact ⟨hne, h⟩
theorem up_off (h : Up M s) {d : Nat} (hi : idl M s d = true) : Up M (offS M s d) := by
  obtain ⟨-, h2, h3⟩ := idl_iff.1 hi
  obtain ⟨e1, e2, -⟩ := offS_act (M := M) (s := s) d
  refine ⟨fun p hp hx => ?_, fun i hu => ?_, fun i hx => ?_⟩
  · rw [e1] at hx ⊢
    obtain ⟨hne, ha⟩ := setF_off hx
    have h4 := h.sup p hp ha
    rw [setF_ne _ _ (fun e => ?_)]
    · exact h4
    · have := h3 p.1 (by rw [← e]; exact hp)
      rw [this] at ha
      cases ha
  · rw [e2] at hu
    rw [e1, setF_ne _ _ (fun e => by rw [e, h2] at hu; omega)]
    exact h.use i hu
  · rw [e1] at hx
    exact h.dom i (setF_off hx).2
theorem late_off (h : Up M s) {d : Nat} (hf : fstM M s = some d) : Late M (offS M s d) (exy M s d) := by
  obtain ⟨-, hid, hl⟩ := first_all h hf
  intro x hx
  rw [offS_idl] at hx
  obtain ⟨k1, k2, k3⟩ := idl_iff.1 hx
  obtain ⟨hne, hax⟩ := setF_off k1
  show exy M s d ≤ (offS M s d).sin x + M.dl x
  rw [offS_sin]
  split
  · exact Nat.le_add_right _ _
  · rename_i hnot
    refine hl x (idl_iff.2 ⟨hax, k2, fun c hc => ?_⟩)
    have h4 := k3 c hc
    by_cases e : c = d
    · subst e
      exact absurd ⟨mem_supL.2 hc, hx⟩ hnot
    · simp only [setF_ne _ _ e] at h4
      exact h4
/-- What the operations make of the active devices. -/
def actsF (on : Nat → Bool) (ops : List POp) : Nat → Bool := ops.foldl (fun on o => setF on o.dev o.res) on
def lastT (last : Nat) (ops : List POp) : Nat := ops.foldl (fun _ o => o.tm) last
structure OpOk (M : RM) (now : Nat) (on : Nat → Bool) (last : Nat) (o : POp) : Prop where
  lt : o.dev < M.n
  lo : last ≤ o.tm
  hi : o.tm ≤ now
  alt : on o.dev = !o.res
  up : ∀ p ∈ M.L, o.res = true → p.1 = o.dev → on p.2 = true
  dn : ∀ p ∈ M.L, o.res = false → p.2 = o.dev → on p.1 = false
def Runs (M : RM) (now : Nat) : (Nat → Bool) → Nat → List POp → Prop
  | _, _, [] => True
  | on, last, o :: l => OpOk M now on last o ∧ Runs M now (setF on o.dev o.res) o.tm l
theorem actsF_snoc (on : Nat → Bool) (ops : List POp) (o : POp) : actsF on (ops ++ [o]) = setF (actsF on ops) o.dev o.res := by simp [actsF]
theorem lastT_snoc (last : Nat) (ops : List POp) (o : POp) : lastT last (ops ++ [o]) = o.tm := by simp [lastT]
theorem Runs.snoc {now : Nat} : ∀ {ops : List POp} {on : Nat → Bool} {last : Nat} {o : POp}, Runs M now on last ops → OpOk M now (actsF on ops) (lastT last ops) o → Runs M now on last (ops ++ [o])
  | [], _, _, _, _, h => ⟨h, trivial⟩
  | _ :: _, _, _, _, h, k => ⟨h.1, Runs.snoc h.2 k⟩
theorem Runs.at_ {now : Nat} : ∀ {ops : List POp} {on : Nat → Bool} {last : Nat} {k : Nat} {o : POp}, Runs M now on last ops → ops[k]? = some o → OpOk M now (actsF on (ops.take k)) (lastT last (ops.take k)) o
  | [], _, _, _, _, _, hk => by cases hk
  | a :: l, on, last, 0, o, h, hk => by
    injection hk with hk
    subst hk
    exact h.1
  | a :: l, on, last, k + 1, o, h, hk => Runs.at_ (ops := l) (k := k) h.2 hk
theorem Runs.last_le {now : Nat} : ∀ {ops : List POp} {on : Nat → Bool} {last : Nat}, Runs M now on last ops → last ≤ now → lastT last ops ≤ now
  | [], _, _, _, h => h
  | _ :: l, _, _, h, _ => Runs.last_le (ops := l) h.2 h.1.hi
/-- A call so far: its operations are in order, the devices are as the operations leave them. -/
structure Mid (M : RM) (now : Nat) (on : Nat → Bool) (last : Nat) (s : RS) (ops : List POp) : Prop where
  run : Runs M now on last ops
  act : s.act = actsF on ops
  late : Late M s (lastT last ops)
  up : Up M s
theorem Mid.off {now : Nat} {on : Nat → Bool} {last : Nat} {ops : List POp} (h : Mid M now on last s ops) {d : Nat} (hf : fstM M s = some d) (ht : exy M s d ≤ now) : Mid M now on last (offS M s d) (ops ++ [⟨d, false, exy M s d⟩]) := by
  obtain ⟨hd, hid, hl⟩ := first_all h.up hf
  obtain ⟨h1, h2, h3⟩ := idl_iff.1 hid
  refine ⟨h.run.snoc ⟨hd, h.late d hid, ht, by rw [← h.act]; exact h1, (fun p hp e => by cases e), fun p hp _ e => ?_⟩, ?_, ?_, up_off h.up hid⟩
  · rw [← h.act]
    have he : p.2 = d := e
    exact h3 p.1 (by rw [← he]; exact hp)
  · rw [actsF_snoc, (offS_act d).1, h.act]
  · rw [lastT_snoc]
    exact late_off h.up hf
theorem expK_mid {lim now : Nat} (hl : lim ≤ now) {on : Nat → Bool} {last : Nat} : ∀ (k : Nat) (s : RS) (ops : List POp), Mid M now on last s ops → Mid M now on last (expK M lim k s ops).1 (expK M lim k s ops).2
  | 0, _, _, h => h
  | k + 1, s, ops, h => by
    unfold expK
    split
    · exact h
    · rename_i d hd
      split
      · exact h
      · exact expK_mid hl k _ _ (h.off hd (by omega))
theorem nAct_pos {d : Nat} (hd : d < M.n) (h : s.act d = true) : 0 < nAct M s := by
  unfold nAct
  exact List.length_pos_of_mem (List.mem_filter.2 ⟨List.mem_range.2 hd, h⟩)
/-- Behind the expiration no device expires at its limit. -/
theorem expK_end (lim : Nat) : ∀ (k : Nat) (s : RS) (ops : List POp), nAct M s < k → Up M s → Late M (expK M lim k s ops).1 (lim + 1)
  | 0, _, _, h, _ => by omega
  | k + 1, s, ops, h, hu => by
    unfold expK
    split
    · rename_i hn
      intro i hi
      rw [first_none hu hn i] at hi
      cases hi
    · rename_i d hd
      obtain ⟨h1, h2, h3⟩ := first_all hu hd
      split
      · rename_i hlt
        intro i hi
        have h4 := h3 i hi
        show lim + 1 ≤ exy M s i
        omega
      · exact expK_end lim k _ _ (by have := nAct_off h1 (idl_act h2); omega) (up_off hu h2)
/-- What holds between calls. -/
structure Good (M : RM) (s : RS) : Prop where
  up : Up M s
  late : Late M s (s.clk + 1)
/-- What a call that succeeds does. -/
structure Did (M : RM) (t : Nat) (s : RS) (last : Nat) (R : RS × List POp) : Prop where
  run : Runs M t s.act last R.2
  act : R.1.act = actsF s.act R.2
  good : Good M R.1
  clk : R.1.clk = t
theorem expM_late (M : RM) (t : Nat) {s : RS} (ops : List POp) (h : Up M s) : Late M (expM M t s ops).1 (t + 1) := expK_end t _ _ _ (by have := nAct_le M s; omega) h
theorem Up.tick (h : Up M s) (t : Nat) : Up M { s with clk := t } := ⟨h.sup, h.use, h.dom⟩
theorem Late.tick {t0 : Nat} (h : Late M s t0) (t : Nat) : Late M { s with clk := t } t0 := h
theorem Late.le {t t' : Nat} (h : Late M s t) (k : t' ≤ t) : Late M s t' := fun i hi => Nat.le_trans k (h i hi)
theorem Good.mid (h : Good M s) {last t : Nat} (hl : last ≤ s.clk) : Mid M t s.act last { s with clk := t } [] := ⟨trivial, rfl, (h.late.le (by show last ≤ _; omega)).tick t, h.up.tick t⟩
theorem expM_clk (M : RM) (t : Nat) (s : RS) (ops : List POp) : (expM M t s ops).1.clk = s.clk ∧ (expM M t s ops).1.use = s.use := ⟨(expK_use t _ _ _).2, (expK_use t _ _ _).1⟩
theorem adv_did (h : Good M s) {last t : Nat} (hl : last ≤ s.clk) : Did M t s last (advM M s t) := by
  have hm := expK_mid (Nat.le_refl t) (M.n + 1) _ _ (h.mid hl)
  refine ⟨hm.run, hm.act, ⟨hm.up, ?_⟩, (expM_clk M t _ _).1⟩
  have := expM_late M t [] (h.up.tick t)
  unfold advM
  rw [(expM_clk M t _ _).1]
  exact this
theorem put_did (h : Good M s) {last t d : Nat} (hl : last ≤ s.clk) (ht : s.clk ≤ t) (hu : 0 < s.use d) : Did M t s last (putM M s d t) := by
  have hm := expK_mid (Nat.le_refl t) (M.n + 1) _ _ (h.mid (t := t) hl)
  have hlate := expM_late M t [] (h.up.tick t)
  have hE : (expM M t { s with clk := t } []) = expK M t (M.n + 1) { s with clk := t } [] := rfl
  rw [← hE] at hm
  have hc := expM_clk M t { s with clk := t } []
  have hlast := hm.run.last_le (show last ≤ t by omega)
  unfold putM
  generalize expM M t { s with clk := t } [] = E at hm hlate hc hlast ⊢
  obtain ⟨s1, o1⟩ := E
  simp only at hm hlate hc hlast ⊢
  obtain ⟨hc1, hc2⟩ := hc
  have hud : 0 < s1.use d := by rw [hc2]; exact hu
  have had := hm.up.use d hud
  have hup : Up M (useS s1 d (s1.use d - 1)) := ⟨hm.up.sup, fun i hi => by
    by_cases e : i = d
    · subst e; exact had
    · exact hm.up.use i (by rw [show (useS s1 d (s1.use d - 1)).use i = s1.use i from setF_ne _ _ e] at hi; exact hi), hm.up.dom⟩
  have hup2 : Up M (idleS M (useS s1 d (s1.use d - 1)) d t) := by
    unfold idleS
    split
    · exact ⟨hup.sup, hup.use, hup.dom⟩
    · exact hup
  have hlate2 : Late M (idleS M (useS s1 d (s1.use d - 1)) d t) t := by
    intro i hi
    have hi2 : idl M (useS s1 d (s1.use d - 1)) i = true := by
      rw [← hi]
      unfold idleS
      split
      · exact idl_congr rfl rfl
      · rfl
    show t ≤ (idleS M (useS s1 d (s1.use d - 1)) d t).sin i + M.dl i
    by_cases e : i = d
    · subst e
      unfold idleS
      rw [if_pos hi2]
      show t ≤ setF _ i t i + _
      rw [setF_self]
      exact Nat.le_add_right _ _
    · have h1 : idl M s1 i = true := by
        obtain ⟨k1, k2, k3⟩ := idl_iff.1 hi2
        rw [show (useS s1 d (s1.use d - 1)).use i = s1.use i from setF_ne _ _ e] at k2
        exact idl_iff.2 ⟨k1, k2, k3⟩
      have h2 := hlate i h1
      have h3 : (idleS M (useS s1 d (s1.use d - 1)) d t).sin i = s1.sin i := by
        unfold idleS
        split
        · exact setF_ne _ _ e
        · rfl
      rw [h3]
      unfold exy at h2
      omega
  have hact : (idleS M (useS s1 d (s1.use d - 1)) d t).act = s1.act := by
    unfold idleS
    split <;> rfl
  have hclk : (idleS M (useS s1 d (s1.use d - 1)) d t).clk = t := by
    unfold idleS
    split <;> exact hc1
  generalize idleS M (useS s1 d (s1.use d - 1)) d t = s2 at hup2 hlate2 hact hclk ⊢
  have hm2 : Mid M t s.act last s2 o1 := ⟨hm.run, hact.trans hm.act, hlate2.le hlast, hup2⟩
  have hm3 := expK_mid (Nat.le_refl t) (M.n + 1) _ _ hm2
  refine ⟨hm3.run, hm3.act, ⟨hm3.up, ?_⟩, (expM_clk M t _ _).1.trans hclk⟩
  have := expM_late M t o1 hup2
  rw [(expM_clk M t _ _).1, hclk]
  exact this
theorem putM_use (M : RM) (s : RS) (d t : Nat) : (putM M s d t).1.use = setF s.use d (s.use d - 1) ∧ (putM M s d t).1.clk = t := by
  unfold putM
  have h1 := expM_clk M t { s with clk := t } []
  generalize expM M t { s with clk := t } [] = E at h1 ⊢
  have h2 := expM_clk M t (idleS M (useS E.1 d (E.1.use d - 1)) d t) E.2
  have h3 : (idleS M (useS E.1 d (E.1.use d - 1)) d t).use = setF E.1.use d (E.1.use d - 1) ∧ (idleS M (useS E.1 d (E.1.use d - 1)) d t).clk = E.1.clk := by
    unfold idleS
    split <;> exact ⟨rfl, rfl⟩
  exact ⟨h2.2.trans (h3.1.trans (by rw [h1.2])), h2.1.trans (h3.2.trans h1.1)⟩
theorem advM_use (M : RM) (s : RS) (t : Nat) : (advM M s t).1.use = s.use ∧ (advM M s t).1.clk = t := ⟨(expM_clk M t _ _).2, (expM_clk M t _ _).1⟩
end
end Go.Proofs.Ytdocdgghphhdpaa

