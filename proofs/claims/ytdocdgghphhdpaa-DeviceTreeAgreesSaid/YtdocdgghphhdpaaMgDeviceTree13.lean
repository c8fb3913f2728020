/- Walks: the law's Call.at; Tree.Accessible. -/
import Derived.Test.YtdocdgghphhdpaaMgDeviceTree7
import Derived.Test.YtdocdgghphhdpaaMgDeviceTree10
namespace Go.Proofs.Ytdocdgghphhdpaa
open Go.RowKit

/-- A call of Set. -/
structure TCL where
  dev : Int
  st : Int
  wait : Nat
  raw : Bool
def tclc (c : TCL) : List Value := [.int .i64 c.dev, .int .i64 c.st, .int .u64 (c.wait : Int), .bool c.raw]
def tclcs (l : List TCL) : List Value := l.flatMap tclc
theorem tclc_len (c : TCL) : (tclc c).length = 4 := rfl
theorem Row.tcl {w : World} {A : Option Addr} {l : List TCL} (hr : Row w A (tclcs l)) {i : Nat} {x : TCL} (h : l[i]? = some x) :
    ∃ ob oo, A = some ⟨ob, oo, none⟩ ∧ w.cell? ⟨ob, oo + i * 4, none⟩ = some (.int .i64 x.dev) ∧ w.cell? ⟨ob, oo + i * 4 + 1, none⟩ = some (.int .i64 x.st) ∧ w.cell? ⟨ob, oo + i * 4 + 2, none⟩ = some (.int .u64 (x.wait : Int)) ∧ w.cell? ⟨ob, oo + i * 4 + 3, none⟩ = some (.bool x.raw) := by
  obtain ⟨ob, oo, e, hc⟩ := Row.el (f := tclc) tclc_len (by omega) hr h
  exact ⟨ob, oo, e, hc 0 _ rfl, hc 1 _ rfl, hc 2 _ rfl, hc 3 _ rfl⟩
/-- The arguments of a call. -/
def tatM (c : TCL) (n now : Nat) : Int × Int × Nat := if c.raw = true ∨ n = 0 then (c.dev, c.st, c.wait) else ((umod c.dev n : Int), (umod c.st 5 : Int), now + c.wait % 20)
set_option maxHeartbeats 4000000 in
theorem at27_any (c : TCL) (n now : Nat) (w : World) (hn : n ≤ 64) (ht : now ≤ 1152921504606846976) :
    Calls Try.prog 19 #[.agg #[.int .i64 c.dev, .int .i64 c.st, .int .u64 (c.wait : Int), .bool c.raw], .int .i64 (n : Int), .int .u64 (now : Int)] w fun e w' => e = .returned (.tuple #[.int .i64 (tatM c n now).1, .int .i64 (tatM c n now).2.1, .int .u64 ((tatM c n now).2.2 : Int)]) ∧ Fr [] w w' := by
  have hb := Blk.new w 36 #[.int .i64 c.dev, .int .i64 c.st, .int .u64 (c.wait : Int), .bool c.raw]
  have hf : Fr [] w (w.alloc (.cells #[.int .i64 c.dev, .int .i64 c.st, .int .u64 (c.wait : Int), .bool c.raw] 36)) := (Fr.refl _ _).alloc _
  go_enter Try.func19, Try.ntmps19
  go_upto_region 1 with (fail)
  generalize w.alloc (.cells #[.int .i64 c.dev, .int .i64 c.st, .int .u64 (c.wait : Int), .bool c.raw] 36) = w1 at hb hf ⊢
  generalize w.heap.size = g at hb ⊢
  have c0 : w1.cell? ⟨g, 0, none⟩ = some (.int .i64 c.dev) := hb.cell 0
  have c1 : w1.cell? ⟨g, 1, none⟩ = some (.int .i64 c.st) := hb.cell 1
  have c2 : w1.cell? ⟨g, 2, none⟩ = some (.int .u64 (c.wait : Int)) := hb.cell 2
  have c3 : w1.cell? ⟨g, 3, none⟩ = some (.bool c.raw) := hb.cell 3
  clear hb
  by_cases h : c.raw = true ∨ n = 0
  · have HE : Hid (tatM c n now = (c.dev, c.st, c.wait)) := hide (by unfold tatM; rw [if_pos h])
    cases hr : c.raw with
    | true =>
      rw [hr] at c3
      clear h hr
      go_wp2
      go_quiet (fail)
      go_wp2
      go_ret3
      exact ⟨by rw [HE.out]; rfl, hf.drewN _⟩
    | false =>
      rw [hr] at c3
      obtain rfl : n = 0 := by simpa [hr] using h
      clear h hr
      go_wp2
      go_quiet (fail)
      go_wp2
      go_ret3
      exact ⟨by rw [HE.out]; rfl, hf.drewN _⟩
  · have hr : c.raw = false := by cases hr : c.raw with
      | true => exact absurd (.inl hr) h
      | false => rfl
    have hn0 : 0 < n := Nat.pos_of_ne_zero (fun e => h (.inr e))
    have HE : Hid (tatM c n now = ((umod c.dev n : Int), (umod c.st 5 : Int), now + c.wait % 20)) := hide (by unfold tatM; rw [if_neg h])
    rw [hr] at c3
    have hni : ((n : Int) == 0) = false := by simp; omega
    clear h hr
    have h15 : (c.wait : Int).tmod 20 = ((c.wait % 20 : Nat) : Int) := rfl
    have h15b : (c.wait : Int) % 20 = ((c.wait % 20 : Nat) : Int) := rfl
    have hlt15 : c.wait % 20 < 20 := by omega
    generalize c.wait % 20 = t at h15 h15b HE hlt15
    have hw15 : IntKind.u64.wrap ((now : Int) + (t : Int)) = ((now + t : Nat) : Int) := by rw [IntKind.wrap_u64]; omega
    have hn1 : (0 : Int) < (n : Int) := by omega
    have hn4 : (n : Int) ≤ 4096 := by omega
    go_upto_region 3 with (fail)
    go_region_held3 (fun w' => w'.cell? ⟨g, 0, none⟩ = some (.int .i64 c.dev) ∧ w'.cell? ⟨g, 1, none⟩ = some (.int .i64 c.st) ∧ w'.cell? ⟨g, 2, none⟩ = some (.int .u64 (c.wait : Int))) (go_keep) (first | (go_at_call 24; refine (mod_int _ _ _ (by omega) (by omega)).mono ?_; rintro e w' ⟨rfl, rfl⟩))
    all_goals
      go_wp2
      go_ret3
      exact ⟨by rw [HE.out]; rfl, hf.drew⟩
theorem tatM_bounds {c : TCL} {n now : Nat} (hr : c.raw = false) (hn : 0 < n) : ∃ d k : Nat, d < n ∧ k ≤ 4 ∧ tatM c n now = ((d : Int), (k : Int), now + c.wait % 20) := by
  refine ⟨umod c.dev n, umod c.st 5, umod_lt _ hn, by have := umod_lt c.st (show 0 < 5 by omega); omega, ?_⟩
  rw [tatM, if_neg (by rw [hr]; simp; omega)]
end Go.Proofs.Ytdocdgghphhdpaa

/- The plain model of requirements: the transitive closure, Warshall's matrix, and that the greedy sequence takes every node just if no node requires itself. -/
namespace Go.Proofs.Ytdocdgghphhdpaa

/-- a requires b. -/
inductive Req (L : List (Nat × Nat)) : Nat → Nat → Prop
  | one {a b : Nat} (h : (a, b) ∈ L) : Req L a b
  | step {a b c : Nat} (h : (a, b) ∈ L) (k : Req L b c) : Req L a c
theorem Req.trans {L : List (Nat × Nat)} {a b c : Nat} (h : Req L a b) (k : Req L b c) : Req L a c := by
  induction h with
  | one h => exact .step h k
  | step h _ ih => exact .step h (ih k)

def wmat (L : List (Nat × Nat)) : Nat → Nat → Nat → Bool
  | 0, a, b => decide ((a, b) ∈ L)
  | k + 1, a, b => wmat L k a b || (wmat L k a k && wmat L k k b)
theorem wmat_sound {L : List (Nat × Nat)} : ∀ (k a b : Nat), wmat L k a b = true → Req L a b
  | 0, a, b, h => .one (by simpa [wmat] using h)
  | k + 1, a, b, h => by
    simp only [wmat, Bool.or_eq_true, Bool.and_eq_true] at h
    rcases h with h | ⟨h1, h2⟩
    · exact wmat_sound k a b h
    · exact (wmat_sound k a k h1).trans (wmat_sound k k b h2)
theorem wmat_mono {L : List (Nat × Nat)} {k a b : Nat} (h : wmat L k a b = true) : wmat L (k + 1) a b = true := by simp [wmat, h]
theorem wmat_thru {L : List (Nat × Nat)} : ∀ (k j a b : Nat), j < k → wmat L k a j = true → wmat L k j b = true → wmat L k a b = true
  | 0, j, a, b, hj, _, _ => by omega
  | k + 1, j, a, b, hj, h1, h2 => by
    simp only [wmat, Bool.or_eq_true, Bool.and_eq_true] at h1 h2 ⊢
    by_cases e : j = k
    · subst e
      have h1' : wmat L j a j = true := by rcases h1 with h | h; exact h; exact h.1
      have h2' : wmat L j j b = true := by rcases h2 with h | h; exact h; exact h.2
      exact .inr ⟨h1', h2'⟩
    · have hj' : j < k := by omega
      rcases h1 with h1 | ⟨h1, h1'⟩
      · rcases h2 with h2 | ⟨h2, h2'⟩
        · exact .inl (wmat_thru k j a b hj' h1 h2)
        · exact .inr ⟨wmat_thru k j a k hj' h1 h2, h2'⟩
      · rcases h2 with h2 | ⟨h2, h2'⟩
        · exact .inr ⟨h1, wmat_thru k j k b hj' h1' h2⟩
        · exact .inr ⟨h1, h2'⟩
theorem wmat_zero {L : List (Nat × Nat)} {a b : Nat} (h : (a, b) ∈ L) : ∀ k, wmat L k a b = true
  | 0 => by simp [wmat, h]
  | k + 1 => wmat_mono (wmat_zero h k)
theorem wmat_complete {n : Nat} {L : List (Nat × Nat)} (hL : ∀ p ∈ L, p.1 < n ∧ p.2 < n) {a b : Nat} (h : Req L a b) : wmat L n a b = true := by
  induction h with
  | one h => exact wmat_zero h n
  | step h _ ih => exact wmat_thru n _ _ _ (hL _ h).2 (wmat_zero h n) ih
theorem wmat_iff {n : Nat} {L : List (Nat × Nat)} (hL : ∀ p ∈ L, p.1 < n ∧ p.2 < n) {a b : Nat} : wmat L n a b = true ↔ Req L a b := ⟨wmat_sound n a b, wmat_complete hL⟩
/-- The matrix in the midst of round k: the rows below a, and of row a the places below b, are done. -/
def wmid (L : List (Nat × Nat)) (k a b : Nat) (i j : Nat) : Bool := if i < a ∨ (i = a ∧ j < b) then wmat L (k + 1) i j else wmat L k i j
theorem wmat_row (L : List (Nat × Nat)) (k j : Nat) : wmat L (k + 1) k j = wmat L k k j := by
  simp only [wmat]
  cases wmat L k k j <;> simp
theorem wmat_col (L : List (Nat × Nat)) (k i : Nat) : wmat L (k + 1) i k = wmat L k i k := by
  simp only [wmat]
  cases wmat L k i k <;> simp
theorem wmid_row (L : List (Nat × Nat)) (k a b j : Nat) : wmid L k a b k j = wmat L k k j := by
  unfold wmid
  split
  · exact wmat_row L k j
  · rfl
theorem wmid_col (L : List (Nat × Nat)) (k a b i : Nat) : wmid L k a b i k = wmat L k i k := by
  unfold wmid
  split
  · exact wmat_col L k i
  · rfl

/-- No node requires itself. -/
def Acyc (L : List (Nat × Nat)) : Prop := ∀ a, ¬ Req L a a

theorem req_before {n : Nat} {L : List (Nat × Nat)} {o : List Nat} (hc : ∀ (i : Nat) (v : Nat), o[i]? = some v → ∀ p ∈ L, p.1 = v → p.2 ∈ o.take i) (hall : ∀ v, v < n → v ∈ o) (hn : o.Nodup) (hL : ∀ p ∈ L, p.1 < n ∧ p.2 < n) {a b : Nat} (h : Req L a b) :
    o.idxOf b < o.idxOf a := by
  have one : ∀ a b, (a, b) ∈ L → o.idxOf b < o.idxOf a := fun a b h => by
    have ha := hall a (hL _ h).1
    have hi : o.idxOf a < o.length := List.idxOf_lt_length_of_mem ha
    have hg : o[o.idxOf a]? = some a := by rw [List.getElem?_eq_getElem hi, List.getElem_idxOf hi]
    have hb := hc _ _ hg _ h rfl
    rw [List.mem_iff_getElem?] at hb
    obtain ⟨j, hj⟩ := hb
    rw [List.getElem?_take] at hj
    split at hj
    · rename_i hlt
      have hjl : j < o.length := by omega
      rw [List.getElem?_eq_getElem hjl] at hj
      injection hj with hj
      have hj' : o[j] = b := hj
      have hb' : b ∈ o := by rw [← hj']; exact List.getElem_mem hjl
      have hk : o.idxOf b < o.length := List.idxOf_lt_length_of_mem hb'
      have : o.idxOf b = j := by
        have h1 : o[o.idxOf b] = o[j] := by rw [List.getElem_idxOf hk, hj']
        exact (List.getElem_inj hn).1 h1
      omega
    · cases hj
  induction h with
  | one h => exact one _ _ h
  | step h _ ih => exact Nat.lt_trans ih (one _ _ h)

theorem greedyF_prefix {n : Nat} {L : List (Nat × Nat)} : ∀ (f : Nat) (o : List Nat), (∀ (i : Nat) (v : Nat), o[i]? = some v → ∀ p ∈ L, p.1 = v → p.2 ∈ o.take i) →
    ∀ (i : Nat) (v : Nat), (greedyF n L f o)[i]? = some v → ∀ p ∈ L, p.1 = v → p.2 ∈ (greedyF n L f o).take i
  | 0, o, h => h
  | f + 1, o, h => by
    unfold greedyF
    split
    · rename_i q hq
      obtain ⟨h1, h2, _⟩ := pick_some.1 hq
      refine greedyF_prefix f _ (fun i v hi p hp e => ?_)
      by_cases hil : i < o.length
      · rw [List.getElem?_append_left hil] at hi
        rw [List.take_append_of_le_length (by omega)]
        exact h i v hi p hp e
      · have hio : i = o.length := by
          have := (List.getElem?_eq_some_iff.1 hi).1
          simp at this
          omega
        subst hio
        simp at hi
        subst hi
        rw [List.take_left']
        · exact h2.2 p hp e
        · rfl
    · exact h
theorem greedy_prefix (n : Nat) (L : List (Nat × Nat)) : ∀ (i : Nat) (v : Nat), (greedy n L)[i]? = some v → ∀ p ∈ L, p.1 = v → p.2 ∈ (greedy n L).take i := greedyF_prefix n [] (by simp)
theorem mem_of_full {n : Nat} {o : List Nat} (h1 : ∀ v ∈ o, v < n) (h2 : o.Nodup) (h3 : o.length = n) {v : Nat} (hv : v < n) : v ∈ o := by
  apply Classical.byContradiction
  intro hn
  have := nodup_length_le (n := n) (o := v :: o) (fun u hu => by rcases List.mem_cons.1 hu with e | e; rw [e]; exact hv; exact h1 u e) (List.nodup_cons.2 ⟨hn, h2⟩)
  simp at this
  omega
/-- A walk from v that always goes on. -/
def walkF (f : Nat → Nat) (v : Nat) : Nat → Nat
  | 0 => v
  | k + 1 => f (walkF f v k)
/-- If each node of a set has a supplier in it, some node requires itself. -/
theorem cyc_of_stuck {n : Nat} {L : List (Nat × Nat)} {R : Nat → Prop} (hR : ∀ v, R v → v < n) (hs : ∀ v, R v → ∃ u, R u ∧ (v, u) ∈ L) {v : Nat} (hv : R v) : ∃ a, Req L a a := by
  apply Classical.byContradiction
  intro hno
  have hex : ∀ v, ∃ u, R v → R u ∧ (v, u) ∈ L := fun v => by
    by_cases h : R v
    · obtain ⟨u, hu⟩ := hs v h
      exact ⟨u, fun _ => hu⟩
    · exact ⟨0, fun h' => absurd h' h⟩
  have hf : ∀ v, R v → R (Classical.choose (hex v)) ∧ (v, Classical.choose (hex v)) ∈ L := fun v h => Classical.choose_spec (hex v) h
  generalize hfe : (fun v => Classical.choose (hex v)) = f at hf
  replace hf : ∀ v, R v → R (f v) ∧ (v, f v) ∈ L := fun v h => by rw [← hfe]; exact Classical.choose_spec (hex v) h
  have hw : ∀ k, R (walkF f v k) := fun k => by
    induction k with
    | zero => exact hv
    | succ k ih => exact (hf _ ih).1
  have hreq : ∀ i d, Req L (walkF f v i) (walkF f v (i + d + 1)) := fun i d => by
    induction d with
    | zero => exact .one (hf _ (hw i)).2
    | succ d ih => exact ih.trans (.one (hf _ (hw (i + d + 1))).2)
  have hnd : ((List.range (n + 1)).map (walkF f v)).Nodup := by
    unfold List.Nodup
    rw [List.pairwise_iff_getElem]
    intro i j hi hj hij e
    simp only [List.getElem_map, List.getElem_range] at e
    refine hno ⟨walkF f v i, ?_⟩
    have h := hreq i (j - i - 1)
    rw [show i + (j - i - 1) + 1 = j by omega, ← e] at h
    exact h
  have := nodup_length_le (n := n) (fun u hu => by
    obtain ⟨k, _, rfl⟩ := List.mem_map.1 hu
    exact hR _ (hw k)) hnd
  simp at this
  omega
/-- What is left when the greedy sequence ends has a supplier that is left. -/
theorem greedy_left {n : Nat} {L : List (Nat × Nat)} (hL : ∀ p ∈ L, p.1 < n ∧ p.2 < n) {v : Nat} (hv : v < n) (hn : v ∉ greedy n L) : ∃ u, u < n ∧ u ∉ greedy n L ∧ (v, u) ∈ L := by
  have h := pick_none.1 (greedy_end n L) v hv
  apply Classical.byContradiction
  intro hno
  refine h ⟨hn, fun p hp e => ?_⟩
  apply Classical.byContradiction
  intro h2
  exact hno ⟨p.2, (hL p hp).2, h2, by rw [← e]; exact hp⟩
theorem greedy_full {n : Nat} {L : List (Nat × Nat)} (hL : ∀ p ∈ L, p.1 < n ∧ p.2 < n) : (greedy n L).length = n ↔ Acyc L := by
  have hok := greedy_ok n L
  constructor
  · intro h a ha
    have := req_before (greedy_prefix n L) (fun v hv => mem_of_full hok.lt hok.nodup h hv) hok.nodup hL ha
    omega
  · intro h
    apply Classical.byContradiction
    intro hne
    have hle := hok.length_le
    have : ∃ v, v < n ∧ v ∉ greedy n L := by
      apply Classical.byContradiction
      intro hno
      have hsub : ∀ v, v < n → v ∈ greedy n L := fun v hv => by
        apply Classical.byContradiction
        exact fun h' => hno ⟨v, hv, h'⟩
      have : (List.range n).length ≤ (greedy n L).length := (List.nodup_range).length_le_of_subset (fun v hv => hsub v (List.mem_range.1 hv))
      simp at this
      omega
    obtain ⟨v, hv, hvn⟩ := this
    obtain ⟨a, ha⟩ := cyc_of_stuck (n := n) (L := L) (R := fun v => v < n ∧ v ∉ greedy n L) (fun v h => h.1) (fun v h => by
      obtain ⟨u, h1, h2, h3⟩ := greedy_left hL h.1 h.2
      exact ⟨u, ⟨h1, h2⟩, h3⟩) ⟨hv, hvn⟩
    exact h a ha
theorem toNs_lt {n : Nat} {l : List (Int × Int)} (h : ∀ p ∈ l, LinkOk n p) : ∀ p ∈ toNs l, p.1 < n ∧ p.2 < n := by
  intro p hp
  obtain ⟨q, hq, rfl⟩ := List.mem_map.1 hp
  have := h q hq
  unfold LinkOk at this
  simp only [toN]
  omega
end Go.Proofs.Ytdocdgghphhdpaa

