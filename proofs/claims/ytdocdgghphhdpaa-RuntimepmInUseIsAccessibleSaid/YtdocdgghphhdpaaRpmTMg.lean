/- The table of states while New fills it; what New answers, plain. -/
import Derived.Test.YtdocdgghphhdpaaMgRpInUse16
import Derived.Test.YtdocdgghphhdpaaMgRpInUse18
import Derived.Test.YtdocdgghphhdpaaMgRpInUse8
import Derived.Test.YtdocdgghphhdpaaMgRpInUse2
import Derived.Test.YtdocdgghphhdpaaMgRpInUse10
import Derived.Laws.MakeOwn
namespace Go.Proofs.Ytdocdgghphhdpaa
open Go.RowKit

def zeroS : RS := ⟨fun _ => false, fun _ => 0, fun _ => 0, 0⟩
def linkOf (i : Nat) (d : ID) : List (Int × Int) := (if 0 ≤ d.par then [((i : Int), d.par)] else []) ++ d.sup.map fun s => ((i : Int), s)
def idLinks : Nat → List ID → List (Int × Int)
  | _, [] => []
  | i, d :: l => linkOf i d ++ idLinks (i + 1) l
theorem idLinks_snoc : ∀ (l : List ID) (i : Nat) (d : ID), idLinks i (l ++ [d]) = idLinks i l ++ linkOf (i + l.length) d
  | [], i, d => by simp [idLinks]
  | a :: l, i, d => by
    rw [List.cons_append, idLinks, idLinks, idLinks_snoc l (i + 1) d, List.append_assoc, List.length_cons, show i + 1 + l.length = i + (l.length + 1) by omega]
theorem idLinks_take {l : List ID} {k : Nat} {d : ID} (h : l[k]? = some d) : idLinks 0 (l.take (k + 1)) = idLinks 0 (l.take k) ++ linkOf k d := by
  obtain ⟨h1, h2⟩ := List.getElem?_eq_some_iff.1 h
  rw [List.take_succ_eq_append_getElem h1, h2, idLinks_snoc, List.length_take, Nat.min_eq_left (by omega), Nat.zero_add]
theorem linkOf_len (i : Nat) (d : ID) : (linkOf i d).length = (if 0 ≤ d.par then 1 else 0) + d.sup.length := by
  unfold linkOf
  rw [List.length_append, List.length_map]
  split <;> rfl
def idOk (n : Nat) (d : ID) : Prop := -1 ≤ d.par ∧ d.par < n ∧ d.dl ≤ 1048576
instance (n : Nat) (d : ID) : Decidable (idOk n d) := by unfold idOk; infer_instance
/-- What New answers where neither the devices nor their suppliers are too many. -/
def newE (l : List ID) : Int := if ∀ d ∈ l, idOk l.length d then checkM (l.length : Int) (idLinks 0 l) else 1
def newRM (l : List ID) : RM := ⟨l.length, toNs (idLinks 0 l), fun i => ((l[i]?).map ID.dl).getD 0, greedy l.length (toNs (idLinks 0 l))⟩
theorem idLinks_bound {B : Nat} : ∀ (i : Nat) (l : List ID), (∀ d ∈ l, d.sup.length ≤ B) → (idLinks i l).length ≤ l.length * (B + 1)
  | _, [], _ => by simp [idLinks]
  | i, d :: l, hl => by
    have h1 := idLinks_bound (i + 1) l (fun x hx => hl x (List.mem_cons_of_mem _ hx))
    have h2 := hl d (List.mem_cons_self ..)
    rw [idLinks, List.length_append, linkOf_len, List.length_cons, Nat.add_mul, Nat.one_mul]
    split <;> omega
theorem stvs_V0 (S C : Nat → Value) (M : RM) (s : RS) {i : Nat} (hi : i < M.n) (v : Value) : (stvs S C M s).setIfInBounds (i * 6) v = stvs (setF S i v) C M s := by
  unfold stvs
  rw [show i * 6 = i * 6 + 0 from rfl, List.setIfInBounds_toArray, rng_set _ (stv (setF S i v) C M s) (stv_len S C M s) (stv_len _ _ _ _) hi (by omega) _ (by simp [stv, setF]) (fun q hq => by simp [stv, setF, hq])]
theorem stvs_V1 (S C : Nat → Value) (M : RM) (s : RS) {i : Nat} (hi : i < M.n) (v : Value) : (stvs S C M s).setIfInBounds (i * 6 + 1) v = stvs S (setF C i v) M s := by
  unfold stvs
  rw [List.setIfInBounds_toArray, rng_set _ (stv S (setF C i v) M s) (stv_len S C M s) (stv_len _ _ _ _) hi (by omega) _ (by simp [stv, setF]) (fun q hq => by simp [stv, setF, hq])]
theorem stvs_dl (S C : Nat → Value) (M : RM) (s : RS) {i : Nat} (hi : i < M.n) (u : Nat) : (stvs S C M s).setIfInBounds (i * 6 + 2) (uv u) = stvs S C { M with dl := setF M.dl i u } s := by
  unfold stvs
  rw [List.setIfInBounds_toArray, rng_set _ (stv S C { M with dl := setF M.dl i u } s) (stv_len S C M s) (stv_len _ _ _ _) hi (by omega) _ (by simp [stv, setF]) (fun q hq => by simp [stv, setF, hq])]
theorem stvs_congr {S C S' C' : Nat → Value} {M M' : RM} {s : RS} (hn : M.n = M'.n) (h1 : ∀ i, i < M.n → S i = S' i) (h2 : ∀ i, i < M.n → C i = C' i) (h3 : ∀ i, i < M.n → M.dl i = M'.dl i) : stvs S C M s = stvs S' C' M' s := by
  unfold stvs
  congr 1
  rw [← hn]
  have : ∀ (l : List Nat), (∀ x ∈ l, x < M.n) → l.flatMap (stv S C M s) = l.flatMap (stv S' C' M' s) := by
    intro l
    induction l with
    | nil => intro _; rfl
    | cons a l ih =>
      intro h
      have ha := h a (List.mem_cons_self ..)
      rw [List.flatMap_cons, List.flatMap_cons, ih (fun x hx => h x (List.mem_cons_of_mem _ hx))]
      simp only [stv, h1 a ha, h2 a ha, h3 a ha]
  exact this _ (fun x hx => List.mem_range.1 hx)
/-- The table: block g bears the states; list j lies in a row of its own (2 i: suppliers of i, 2 i + 1: consumers of i); no two rows share a block. -/
structure TabIn (w : World) (base g : Nat) (M : RM) (V : Nat → Value) (F : Nat → List Nat) : Prop where
  blk : Blk w g 153 (stvs (fun i => V (2 * i)) (fun i => V (2 * i + 1)) M zeroS)
  rows : ∀ j, j < 2 * M.n → w.ownsRow base 3 1 (V j) (F j).length ((F j).map nv)
  apart : ∀ i j k, i < 2 * M.n → j < 2 * M.n → (V i).ownBlock = some k → (V j).ownBlock = some k → i = j
def colC (j : Nat) : Nat := j / 2 * 6 + j % 2
section
variable {w w1 : World} {base g : Nat} {M : RM} {V : Nat → Value} {F : Nat → List Nat}
theorem TabIn.fr0 (h : TabIn w base g M V F) (k : Fr [] w w1) : TabIn w1 base g M V F := ⟨h.blk.fr k (by simp), fun j hj => own_fr (h.rows j hj) k (fun _ _ => by simp), h.apart⟩
/-- Blocks of other types may turn. -/
theorem TabIn.fr {S : List Nat} (h : TabIn w base g M V F) (k : Fr S w w1) (hS : ∀ g', g' ∈ S → g' < w.heap.size → ∃ t cs, Blk w g' t cs ∧ t ≠ 3 ∧ t ≠ 153) : TabIn w1 base g M V F := by
  refine ⟨h.blk.fr k (fun hm => ?_), fun j hj => own_fr (h.rows j hj) k (fun g' hg hm => ?_), h.apart⟩
  · obtain ⟨t, cs', hb, _, hne⟩ := hS g hm h.blk.lt
    exact Blk.ne_ hb h.blk hne rfl
  · obtain ⟨_, hlt, cs', hb⟩ := own_block (h.rows j hj) hg
    obtain ⟨t, cs'', hb', hne, _⟩ := hS g' hm hlt
    exact Blk.ne_ hb' hb hne rfl
theorem TabIn.cell (h : TabIn w base g M V F) {j : Nat} (hj : j < 2 * M.n) : w.cell? ⟨g, colC j, none⟩ = some (V j) := by
  rw [h.blk.cell]
  unfold colC
  rw [stvs_get _ _ _ _ (show j / 2 < M.n by omega) (show j % 2 < 6 by omega)]
  rcases Nat.mod_two_eq_zero_or_one j with e | e
  · rw [e]
    show some (V (2 * (j / 2))) = _
    rw [show 2 * (j / 2) = j by omega]
  · rw [e]
    show some (V (2 * (j / 2) + 1)) = _
    rw [show 2 * (j / 2) + 1 = j by omega]
theorem TabIn.off (h : TabIn w base g M V F) {j : Nat} (hj : j < 2 * M.n) {k : Nat} (hk : (V j).ownBlock = some k) : k ≠ g ∧ base ≤ k ∧ k < w.heap.size ∧ ∃ cs, Blk w k 3 cs := by
  obtain ⟨h1, h2, cs', hb⟩ := own_block (h.rows j hj) hk
  exact ⟨Blk.ne_ hb h.blk (by decide), h1, h2, cs', hb⟩
theorem tab_set {j : Nat} (hj : j < 2 * M.n) (v : Value) : (stvs (fun i => V (2 * i)) (fun i => V (2 * i + 1)) M zeroS).setIfInBounds (colC j) v = stvs (fun i => setF V j v (2 * i)) (fun i => setF V j v (2 * i + 1)) M zeroS := by
  unfold colC
  rcases Nat.mod_two_eq_zero_or_one j with e | e
  · rw [e, Nat.add_zero, stvs_V0 _ _ _ _ (by omega)]
    refine stvs_congr rfl (fun i hi => ?_) (fun i hi => ?_) (fun _ _ => rfl)
    · unfold setF
      by_cases h : i = j / 2
      · rw [if_pos h, if_pos (by omega)]
      · rw [if_neg h, if_neg (by omega)]
    · unfold setF
      rw [if_neg (by omega)]
  · rw [e, stvs_V1 _ _ _ _ (by omega)]
    refine stvs_congr rfl (fun i hi => ?_) (fun i hi => ?_) (fun _ _ => rfl)
    · unfold setF
      rw [if_neg (by omega)]
    · unfold setF
      by_cases h : i = j / 2
      · rw [if_pos h, if_pos (by omega)]
      · rw [if_neg h, if_neg (by omega)]
/-- One list has grown by one. -/
theorem TabIn.grow (h : TabIn w base g M V F) {j : Nat} (hj : j < 2 * M.n) {v' : Value} {x : Nat} (k : Fr (V j).ownBlock.toList w w1) (hown' : w1.ownsRow base 3 1 v' ((F j).length + 1) ((F j ++ [x]).map nv)) (hat : v'.ownBlock = (V j).ownBlock ∨ ∃ k, w.heap.size ≤ k ∧ v'.ownBlock = some k) :
    TabIn (w1.setCell ⟨g, colC j, none⟩ v') base g M (setF V j v') (setF F j (F j ++ [x])) := by
  have hg1 : Blk w1 g 153 (stvs (fun i => V (2 * i)) (fun i => V (2 * i + 1)) M zeroS) := h.blk.fr k (fun hm => by
    cases hvb : (V j).ownBlock with
    | none => rw [hvb] at hm; cases hm
    | some y => rw [hvb] at hm; exact (h.off hj hvb).1 (List.mem_singleton.1 hm).symm)
  have hv'g : ∀ y, v'.ownBlock = some y → y ≠ g := fun y hy => by
    obtain ⟨_, _, cs', hb⟩ := own_block hown' hy
    exact Blk.ne_ hb hg1 (by decide)
  refine ⟨?_, fun i hi => ?_, fun i i' y hi hi' hy hy' => ?_⟩
  · rw [← tab_set hj]
    exact hg1.set_ _ _
  · unfold setF
    by_cases e : i = j
    · subst e
      rw [if_pos rfl, if_pos rfl, List.length_append]
      exact own_fr (S := [g]) hown' ((Fr.refl _ _).set (.inl (by simp)) _) (fun y hy => by simpa using hv'g y hy)
    · rw [if_neg e, if_neg e]
      have hk : w1.ownsRow base 3 1 (V i) (F i).length ((F i).map nv) := own_fr (h.rows i hi) k (fun y hy hm => by
        cases hvb : (V j).ownBlock with
        | none => rw [hvb] at hm; cases hm
        | some z =>
          rw [hvb] at hm
          have hyz : y = z := List.mem_singleton.1 hm
          subst hyz
          exact e (h.apart i j y hi hj hy hvb))
      exact own_fr (S := [g]) hk ((Fr.refl _ _).set (.inl (by simp)) _) (fun y hy => by simpa using (h.off hi hy).1)
  · have hfresh : ∀ i, i < 2 * M.n → i ≠ j → (V i).ownBlock = some y → v'.ownBlock = some y → False := fun i hi hne hy hy' => by
      rcases hat with hat | ⟨z, hz, hat⟩
      · exact hne (h.apart i j y hi hj hy (by rw [← hat]; exact hy'))
      · have := (h.off hi hy).2.2.1
        rw [hat] at hy'
        injection hy' with hy'
        omega
    unfold setF at hy hy'
    by_cases e : i = j
    · rw [if_pos e] at hy
      by_cases e' : i' = j
      · rw [e, e']
      · rw [if_neg e'] at hy'
        exact (hfresh i' hi' e' hy' hy).elim
    · rw [if_neg e] at hy
      by_cases e' : i' = j
      · rw [if_pos e'] at hy'
        exact (hfresh i hi e hy hy').elim
      · rw [if_neg e'] at hy'
        exact h.apart i i' y hi hi' hy hy'
end
theorem TabIn.delay {w : World} {base g : Nat} {M : RM} {V : Nat → Value} {F : Nat → List Nat} (h : TabIn w base g M V F) {i : Nat} (hi : i < M.n) (u : Nat) : TabIn (w.setCell ⟨g, i * 6 + 2, none⟩ (uv u)) base g { M with dl := setF M.dl i u } V F := by
  refine ⟨?_, fun j hj => own_fr (S := [g]) (h.rows j hj) ((Fr.refl _ _).set (.inl (by simp)) _) (fun y hy => by simpa using (h.off hj hy).1), h.apart⟩
  rw [← stvs_dl _ _ _ _ hi]
  exact h.blk.set_ _ _
/-- The delays of the first k devices. -/
def dlTo (l : List ID) (k i : Nat) : Nat := if i < k then ((l[i]?).map ID.dl).getD 0 else 0
theorem dlTo_step {l : List ID} {k : Nat} {x : ID} (h : l[k]? = some x) : setF (dlTo l k) k x.dl = dlTo l (k + 1) := by
  funext i
  unfold setF dlTo
  by_cases e : i = k
  · subst e
    rw [if_pos rfl, if_pos (by omega), h]
    rfl
  · rw [if_neg e]
    by_cases h2 : i < k
    · rw [if_pos h2, if_pos (by omega)]
    · rw [if_neg h2, if_neg (by omega)]
theorem dlTo_all (l : List ID) : dlTo l l.length = (newRM l).dl := by
  funext i
  unfold dlTo newRM
  split
  · rfl
  · rename_i h
    show 0 = ((l[i]?).map ID.dl).getD 0
    rw [List.getElem?_eq_none (by omega)]
    rfl
/-- The lists of a set of links. -/
def FL (L : List (Nat × Nat)) (j : Nat) : List Nat := if j % 2 = 0 then supL L (j / 2) else conL L (j / 2)
theorem FL_snoc (L : List (Nat × Nat)) (c s : Nat) : setF (setF (FL L) (2 * c) (FL L (2 * c) ++ [s])) (2 * s + 1) (setF (FL L) (2 * c) (FL L (2 * c) ++ [s]) (2 * s + 1) ++ [c]) = FL (L ++ [(c, s)]) := by
  funext j
  have h0 : ∀ i, supL (L ++ [(c, s)]) i = if i = c then supL L i ++ [s] else supL L i := fun i => by
    unfold supL
    rw [List.filter_append, List.map_append]
    by_cases e : i = c
    · subst e; simp
    · rw [if_neg e]
      simp [Ne.symm e]
  have h1 : ∀ i, conL (L ++ [(c, s)]) i = if i = s then conL L i ++ [c] else conL L i := fun i => by
    unfold conL
    rw [List.filter_append, List.map_append]
    by_cases e : i = s
    · subst e; simp
    · rw [if_neg e]
      simp [Ne.symm e]
  unfold setF FL
  rcases Nat.mod_two_eq_zero_or_one j with e | e
  · rw [if_neg (show ¬ j = 2 * s + 1 by omega), if_pos e, h0]
    by_cases h : j = 2 * c
    · subst h
      have e2 : 2 * c / 2 = c := by omega
      simp [e2]
    · rw [if_neg h, if_pos e, if_neg (by omega)]
  · rw [if_neg (show ¬ j % 2 = 0 by omega), h1]
    by_cases h : j = 2 * s + 1
    · subst h
      have e2 : (2 * s + 1) / 2 = s := by omega
      have e3 : ¬ 2 * s + 1 = 2 * c := by omega
      have e4 : (2 * s + 1) % 2 = 1 := by omega
      simp [e2, e3, e4]
    · rw [if_neg h, if_neg (by omega), if_neg (by omega), if_neg (by omega)]
theorem FL_len (L : List (Nat × Nat)) (j : Nat) : (FL L j).length ≤ L.length := by
  unfold FL
  split
  · exact supL_len _ _
  · exact conL_len _ _
theorem toNs_length (l : List (Int × Int)) : (toNs l).length = l.length := by simp [toNs]
theorem st_info : (Try.prog.info? 153).map (fun i => (i.zero, i.size, i.bytes)) = some (some (.agg #[.slice none 0 0, .slice none 0 0, .int .u64 0, .bool false, .int .i64 0, .int .u64 0]), 6, 80) := by kernel_rfl
def nilV : Nat → Value := fun _ => .slice none 0 0
theorem made_st (M : RM) (hd : ∀ i, M.dl i = 0) : madeCells (Value.agg #[.slice none 0 0, .slice none 0 0, .int .u64 0, .bool false, .int .i64 0, .int .u64 0]).cells (M.n * 6) = stvs nilV nilV M zeroS := by
  apply Array.ext_getElem?
  intro i
  have hsz : (stvs nilV nilV M zeroS).size = M.n * 6 := by
    unfold stvs
    rw [List.size_toArray, flat_length (stv_len _ _ _ _), List.length_range]
  by_cases hi : i < M.n * 6
  · have h1 : i / 6 * 6 + i % 6 = i := by omega
    have h2 := stvs_get nilV nilV M zeroS (i := i / 6) (j := i % 6) (by omega) (by omega)
    rw [h1] at h2
    rw [h2]
    have h3 : (madeCells (Value.agg #[.slice none 0 0, .slice none 0 0, .int .u64 0, .bool false, .int .i64 0, .int .u64 0]).cells (M.n * 6))[i]? = some ((Value.agg #[.slice none 0 0, .slice none 0 0, .int .u64 0, .bool false, .int .i64 0, .int .u64 0]).cells[i % 6]!) := by
      unfold madeCells
      rw [Array.getElem?_map, Array.getElem?_eq_getElem (by simpa using hi)]
      simp
      rfl
    rw [h3]
    have hr : i % 6 < 6 := by omega
    generalize i % 6 = r at hr ⊢
    have : r = 0 ∨ r = 1 ∨ r = 2 ∨ r = 3 ∨ r = 4 ∨ r = 5 := by omega
    simp only [stv, hd]
    rcases this with rfl | rfl | rfl | rfl | rfl | rfl <;> rfl
  · rw [Array.getElem?_eq_none (by rw [size_madeCells]; omega), Array.getElem?_eq_none (by rw [hsz]; omega)]
theorem make_st (M : RM) (hd : ∀ i, M.dl i = 0) (hn : M.n ≤ 64) (w : World) : (Instr.makeSlice 149 (.int .i64 (M.n : Int)) (.int .i64 (M.n : Int))).run Try.prog w = .ok (.slice (some ⟨w.heap.size, 0, none⟩) M.n M.n) (w.alloc (.cells (stvs nilV nilV M zeroS) 153)) := by
  obtain ⟨i, hi, hz, hs, hby⟩ := info_parts st_info
  have hr := run_make (P := Try.prog) w 149 153 i _ Try.underlying149 hi hz .i64 .i64 M.n M.n (by omega) (by omega) (by rw [hby]; omega) (by omega)
  rw [hr, hs]
  simp only [Int.toNat_natCast]
  rw [made_st M hd]
theorem TabIn.new (base : Nat) (w : World) (M : RM) : TabIn (w.alloc (.cells (stvs nilV nilV M zeroS) 153)) base w.heap.size M nilV (fun _ => []) :=
  ⟨Blk.new _ _ _, fun _ _ => own_nil _ _ _ _, (fun _ _ _ _ _ h => by cases h)⟩
end Go.Proofs.Ytdocdgghphhdpaa

