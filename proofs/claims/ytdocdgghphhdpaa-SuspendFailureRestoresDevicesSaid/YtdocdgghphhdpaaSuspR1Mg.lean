/- Plain model of the reference of layer 30, and that it does what the plain model of suspend.Sequence does. -/
import Derived.Test.YtdocdgghphhdpaaSuspP2Mg
namespace Go.Proofs.Ytdocdgghphhdpaa
open Go.RowKit

structure RSeq where
  ord : List Nat
  plan : List (Nat × Nat)
  good : List (Nat × Nat)
  down : Bool
  sleeps : Bool
  done : Bool
  code : Int

def phaseL (p : Nat) (ord : List Nat) (r : Bool) : List (Nat × Nat) := (List.range ord.length).map fun i => (p, ord.getD (if r then ord.length - 1 - i else i) 0)
def hits (good : List (Nat × Nat)) (x y : Nat × Nat) : List (Nat × Nat) := (good.filter fun g => g == x).map fun _ => y
def undoRow (ord : List Nat) (good : List (Nat × Nat)) (p : Nat) : List (Nat × Nat) := (phaseL p ord (p == 1)).flatMap fun x => hits good x (9 - p, x.2)
def undoPlan (ord : List Nat) (good : List (Nat × Nat)) : List (Nat × Nat) := undoRow ord good 4 ++ (undoRow ord good 3 ++ (undoRow ord good 2 ++ undoRow ord good 1))
def RSeq.settle (R : RSeq) : RSeq :=
  if R.plan.length > 0 then R else if R.down then { R with down := false, sleeps := true } else if R.sleeps then R else { R with done := true }
def RSeq.undo (R : RSeq) (c : Int) : RSeq := ({ R with down := false, sleeps := false, code := c, plan := undoPlan R.ord R.good } : RSeq).settle
def RSeq.next (R : RSeq) : (Nat × Nat) × Bool := match R.plan with | [] => ((0, 0), false) | x :: _ => (x, true)
def RSeq.complete (R : RSeq) (r : Int) : RSeq × Int :=
  match R.plan with
  | [] => (R, 9)
  | x :: t =>
    if R.down then (if r = 0 then ({ R with plan := t, good := R.good ++ [x] } : RSeq).settle else ({ R with plan := t } : RSeq).undo r, 0)
    else (({ R with plan := t, code := if R.code = 0 then r else R.code } : RSeq).settle, 0)
def RSeq.abort (R : RSeq) : RSeq × Int := if R.down then (R.undo 20, 0) else (R, 9)
def RSeq.wake (R : RSeq) : RSeq × Int := if R.sleeps then (R.undo 0, 0) else (R, 9)
def RSeq.result (R : RSeq) : Int × Bool := if R.done then (R.code, true) else (0, false)
def rseq0 (ord : List Nat) : RSeq :=
  ({ ord := ord, plan := phaseL 1 ord false ++ phaseL 2 ord true ++ phaseL 3 ord true ++ phaseL 4 ord true, good := [], down := true, sleeps := false, done := false, code := 0 } : RSeq).settle

structure Sim (S : Seq) (R : RSeq) : Prop where
  ok : S.Ok
  hit : S.Hit
  ord : R.ord = S.ord
  plan : R.plan = S.plan
  down : R.down = decide (S.st = 1)
  sleeps : R.sleeps = decide (S.st = 2)
  done : R.done = decide (S.st = 4)
  code : R.code = S.rs
  good : ScIs S.sc R.good
  nodup : R.good.Nodup
  part : S.st = 1 → R.good = (downL S.ord).take S.idx
  glen : R.good.length ≤ 4 * S.ord.length

theorem hits_one {good : List (Nat × Nat)} (hn : good.Nodup) (x y : Nat × Nat) : hits good x y = if x ∈ good then [y] else [] := by
  unfold hits
  induction good with
  | nil => simp
  | cons a l ih =>
    have hn' := List.nodup_cons.1 hn
    have ih' := ih hn'.2
    by_cases e : a = x
    · subst e
      have h0 : (l.filter fun g => g == a).map (fun _ => y) = [] := by rw [ih', if_neg hn'.1]
      simp only [List.filter_cons, beq_self_eq_true, if_true, List.map_cons, h0]
      simp
    · have : (a == x) = false := by simpa using e
      simp only [List.filter_cons, this, Bool.false_eq_true, if_false]
      rw [ih']
      have : x ∈ a :: l ↔ x ∈ l := by
        rw [List.mem_cons]
        constructor
        · rintro (h | h)
          · exact absurd h.symm e
          · exact h
        · exact .inr
      simp only [this]
theorem flat_row {ord : List Nat} {sc : Nat → Bool} {ph : Nat} : ∀ (k po : Nat), rowL ord sc ph k po = (List.range k).flatMap fun i => if sc ((9 - ph) * 64 + devAt ord ph (po + i)) then [(ph, devAt ord ph (po + i))] else []
  | 0, _ => rfl
  | k + 1, po => by
    rw [List.range_succ_eq_map, List.flatMap_cons, rowL, flat_row k (po + 1)]
    simp only [Nat.add_zero, List.flatMap_map]
    have e : (fun i => if sc ((9 - ph) * 64 + devAt ord ph (po + 1 + i)) = true then [(ph, devAt ord ph (po + 1 + i))] else []) =
        (fun i => if sc ((9 - ph) * 64 + devAt ord ph (po + (i + 1))) = true then [(ph, devAt ord ph (po + (i + 1)))] else []) := by
      funext i
      rw [show po + 1 + i = po + (i + 1) by omega]
    rw [e]
    split <;> simp
theorem flatMap_congr {α β : Type} {l : List α} {f g : α → List β} (h : ∀ a ∈ l, f a = g a) : l.flatMap f = l.flatMap g := by
  induction l with
  | nil => rfl
  | cons a l ih =>
    rw [List.flatMap_cons, List.flatMap_cons, h a (by simp), ih fun b hb => h b (by simp [hb])]
theorem undoRow_eq {ord : List Nat} {sc : Nat → Bool} {good : List (Nat × Nat)} (ho : OkOrd ord) (hs : ScIs sc good) (hn : good.Nodup) {p : Nat} (h1 : 1 ≤ p) (h4 : p ≤ 4) :
    undoRow ord good p = rowL ord sc (9 - p) ord.length 0 := by
  rw [flat_row]
  unfold undoRow phaseL
  rw [List.flatMap_map]
  refine flatMap_congr fun i hi => ?_
  have hi' : i < ord.length := List.mem_range.1 hi
  have hd : ord.getD (if (p == 1) = true then ord.length - 1 - i else i) 0 = devAt ord (9 - p) i := by
    have : p = 1 ∨ p = 2 ∨ p = 3 ∨ p = 4 := by omega
    rcases this with rfl | rfl | rfl | rfl <;> simp [devAt, rev]
  simp only [hd, Nat.zero_add]
  rw [hits_one hn]
  have hlt := devAt_lt ho (ph := 9 - p) hi'
  have h64 := ho.1
  have := hs p (devAt ord (9 - p) i) (by omega) (by omega)
  rw [show 9 - (9 - p) = p by omega]
  by_cases hm : (p, devAt ord (9 - p) i) ∈ good
  · rw [if_pos hm, if_pos (this.2 hm)]
  · rw [if_neg hm, if_neg (fun h => hm (this.1 h))]
theorem undoPlan_eq {ord : List Nat} {sc : Nat → Bool} {good : List (Nat × Nat)} (ho : OkOrd ord) (hs : ScIs sc good) (hn : good.Nodup) : undoPlan ord good = upL ord sc 4 5 0 := by
  unfold undoPlan
  rw [undoRow_eq ho hs hn (p := 4) (by omega) (by omega), undoRow_eq ho hs hn (p := 3) (by omega) (by omega), undoRow_eq ho hs hn (p := 2) (by omega) (by omega), undoRow_eq ho hs hn (p := 1) (by omega) (by omega)]
  simp [upL]

theorem sim_undo {S : Seq} {R : RSeq} (ok : S.Ok) (ho : R.ord = S.ord) (hg : ScIs S.sc R.good) (hn : R.good.Nodup) (hd : R.done = false) (hgl : R.good.length ≤ 4 * S.ord.length) (c : Int) : Sim (S.undo c) (R.undo c) := by
  have hu := Seq.undo_plan S c
  have hst := Seq.undo_st S c
  have hp : undoPlan R.ord R.good = (S.undo c).plan := by rw [hu.1, ho]; exact undoPlan_eq ok.ord hg hn
  have hok := Seq.undo_ok ok.ord (S := S) c
  by_cases h4 : (S.undo c).st = 4
  · have hnil : undoPlan R.ord R.good = [] := by rw [hp, hu.1]; exact hu.2.2.1.1 h4
    have e : R.undo c = { R with down := false, sleeps := false, code := c, plan := [], done := true } := by
      unfold RSeq.undo RSeq.settle
      simp [hnil]
    rw [e]
    exact ⟨hok, hu.2.1, by rw [hu.2.2.2.1]; exact ho, by rw [← hp, hnil], by simp [h4], by simp [h4], by simp [h4], by rw [hu.2.2.2.2.2], by rw [hu.2.2.2.2.1]; exact hg, hn, by simp [h4], by rw [hu.2.2.2.1]; exact hgl⟩
  · have h3 : (S.undo c).st = 3 := by omega
    have hne : undoPlan R.ord R.good ≠ [] := by
      rw [hp, hu.1]
      intro e
      exact h4 (hu.2.2.1.2 e)
    have hl : undoPlan R.ord R.good ≠ [] → (undoPlan R.ord R.good).length > 0 := fun h => List.length_pos_iff.2 h
    have e : R.undo c = { R with down := false, sleeps := false, code := c, plan := undoPlan R.ord R.good } := by
      unfold RSeq.undo RSeq.settle
      simp [hl hne]
    rw [e]
    exact ⟨hok, hu.2.1, by rw [hu.2.2.2.1]; exact ho, hp, by simp [h3], by simp [h3], by simp [h3, hd], by rw [hu.2.2.2.2.2], by rw [hu.2.2.2.2.1]; exact hg, hn, by simp [h3], by rw [hu.2.2.2.1]; exact hgl⟩

theorem Seq.plan_nil {S : Seq} (ok : S.Ok) (hh : S.Hit) : S.plan = [] ↔ S.st = 2 ∨ S.st = 4 := by
  have hst := ok.st
  constructor
  · intro h
    by_cases h1 : S.st = 1
    · rw [(Seq.plan1 ok h1).1] at h; cases h
    · by_cases h3 : S.st = 3
      · rw [Seq.plan3 ok hh h3] at h; cases h
      · omega
  · rintro (h | h) <;> simp [Seq.plan, h]
theorem sim_next {S : Seq} {R : RSeq} (h : Sim S R) : R.next = S.next := by
  unfold RSeq.next Seq.next
  rw [h.plan]
  have hst := h.ok.st
  by_cases h1 : S.st = 1
  · rw [(Seq.plan1 h.ok h1).1]; simp [h1]
  · by_cases h3 : S.st = 3
    · rw [Seq.plan3 h.ok h.hit h3]; simp [h3]
    · have := (Seq.plan_nil h.ok h.hit).2 (by omega)
      rw [this]
      simp [h1, h3]
theorem mem_take_downL_lt {ord : List Nat} (hp : ord.Nodup) {i : Nat} (hi : i < 4 * ord.length) (ho : OkOrd ord) : opAt ord i ∉ (downL ord).take i := by
  intro hm
  obtain ⟨j, hj⟩ := List.mem_iff_getElem?.1 hm
  rw [List.getElem?_take] at hj
  split at hj
  · rename_i hji
    unfold downL at hj
    rw [List.getElem?_map, List.getElem?_range (by omega)] at hj
    simp only [Option.map_some, Option.some.injEq] at hj
    have hn : 0 < ord.length := by omega
    unfold opAt at hj
    injection hj with h1 h2
    have hd : j / ord.length = i / ord.length := by omega
    rw [hd] at h2
    have hinj : ∀ a b, a < ord.length → b < ord.length → devAt ord (i / ord.length + 1) a = devAt ord (i / ord.length + 1) b → a = b := by
      intro a b ha hb hab
      have hg : ∀ x y, x < ord.length → y < ord.length → ord.getD x 0 = ord.getD y 0 → x = y := fun x y hx hy hxy => by
        rw [List.getD_eq_getElem?_getD, List.getD_eq_getElem?_getD, List.getElem?_eq_getElem hx, List.getElem?_eq_getElem hy] at hxy
        exact (List.getElem_inj hp).1 hxy
      unfold devAt at hab
      split at hab
      · have := hg _ _ (by omega) (by omega) hab; omega
      · exact hg _ _ ha hb hab
    have hm := hinj _ _ (Nat.mod_lt _ hn) (Nat.mod_lt _ hn) h2
    have e1 := Nat.div_add_mod j ord.length
    have e2 := Nat.div_add_mod i ord.length
    rw [hd, hm] at e1
    omega
  · cases hj
theorem opAt_idx {S : Seq} (h : S.Ok) (h1 : S.st = 1) : opAt S.ord S.idx = (S.ph, S.dev) := by
  obtain ⟨g1, g4, gp⟩ := h.down h1
  unfold Seq.idx
  rw [opAt_of gp, show S.ph - 1 + 1 = S.ph by omega]
  rfl

theorem sim_complete {S : Seq} {R : RSeq} (h : Sim S R) (hp : S.ord.Nodup) (r : Int) : Sim (S.complete r).1 (R.complete r).1 ∧ (R.complete r).2 = (S.complete r).2 := by
  have hst := h.ok.st
  unfold Seq.complete RSeq.complete
  by_cases h1 : S.st = 1
  · have hpl := (Seq.plan1 h.ok h1).1
    have hlt := (Seq.plan1 h.ok h1).2
    have hdn : R.down = true := by rw [h.down]; simp [h1]
    rw [h.plan, hpl]
    simp only [h1, if_true, hdn]
    by_cases hr : r = 0
    · simp only [hr, if_true]
      refine ⟨?_, trivial⟩
      obtain ⟨hd1, hd2, hd2', hd3, hd4, hd5, hd6⟩ := Seq.down_plan h.ok h1
      have htl : (downL S.ord).drop (S.idx + 1) = S.down.plan := by
        rw [hpl] at hd1
        injection hd1
      have hdev : S.dev < 64 := by
        obtain ⟨g1, g4, gp⟩ := h.ok.down h1
        have := devAt_lt h.ok.ord (ph := S.ph) gp; have := h.ok.ord.1; unfold Seq.dev; omega
      have hsc : ScIs S.down.sc (R.good ++ [(S.ph, S.dev)]) := by rw [hd3]; exact h.good.snoc hdev
      have hnd : (R.good ++ [(S.ph, S.dev)]).Nodup := by
        rw [List.nodup_append]
        refine ⟨h.nodup, by simp, ?_⟩
        intro a ha b hb e
        simp at hb
        subst hb
        subst e
        rw [h.part h1, ← opAt_idx h.ok h1] at ha
        exact mem_take_downL_lt hp hlt h.ok.ord ha
      have hgl : (R.good ++ [(S.ph, S.dev)]).length ≤ 4 * S.down.ord.length := by
        rw [hd2, h.part h1]
        simp [downL]
        omega
      have hok := Seq.down_ok h.ok h1
      have hdrop : (downL S.ord).drop S.idx = (S.ph, S.dev) :: (downL S.ord).drop (S.idx + 1) := by
        have := hpl
        simp only [Seq.plan, h1, if_true] at this
        exact this
      rcases hd4 with ⟨hs, hne⟩ | ⟨hs, hnil⟩
      · have hl : (S.down.plan).length > 0 := List.length_pos_iff.2 hne
        have e : ({ R with plan := (downL S.ord).drop (S.idx + 1), good := R.good ++ [(S.ph, S.dev)] } : RSeq).settle = { R with plan := S.down.plan, good := R.good ++ [(S.ph, S.dev)] } := by
          unfold RSeq.settle
          rw [htl]
          simp [hl]
        rw [hdn] at e
        rw [e]
        refine ⟨hok, (fun h3 => by rw [hs] at h3; cases h3), by rw [hd2]; exact h.ord, rfl, by simp [hs], by rw [h.sleeps, h1, hs], by rw [h.done, h1, hs], by rw [hd2']; exact h.code, hsc, hnd, fun _ => ?_, hgl⟩
        show R.good ++ [(S.ph, S.dev)] = _
        rw [hd2, hd5 hs, take_snoc_getElem hdrop, h.part h1]
      · have e : ({ R with plan := (downL S.ord).drop (S.idx + 1), good := R.good ++ [(S.ph, S.dev)] } : RSeq).settle = { R with plan := [], good := R.good ++ [(S.ph, S.dev)], down := false, sleeps := true } := by
          unfold RSeq.settle
          rw [htl, hnil]
          simp [hdn]
        rw [hdn] at e
        rw [e]
        exact ⟨hok, (fun h3 => by rw [hs] at h3; cases h3), by rw [hd2]; exact h.ord, hnil.symm, by rw [hs]; rfl, by rw [hs]; rfl, by rw [h.done, h1, hs]; rfl, by rw [hd2']; exact h.code, hsc, hnd, (fun h' => by rw [hs] at h'; cases h'), hgl⟩
    · simp only [hr, if_false]
      refine ⟨?_, trivial⟩
      exact sim_undo (R := { R with plan := (downL S.ord).drop (S.idx + 1) }) h.ok h.ord h.good h.nodup (by rw [h.done]; simp [h1]) h.glen r
  · by_cases h3 : S.st = 3
    · have hpl := Seq.plan3 h.ok h.hit h3
      have hdn : R.down = false := by rw [h.down]; simp [h3]
      have hsl : R.sleeps = false := by rw [h.sleeps]; simp [h3]
      rw [h.plan, hpl]
      simp only [h3, hdn]
      simp only [show ¬ (3 = 1) by omega, if_false, if_true, Bool.false_eq_true]
      refine ⟨?_, trivial⟩
      obtain ⟨hu1, hu2, hu3, hu4, hu5, hu6⟩ := Seq.up_plan h.ok h.hit h3 r
      have hok := Seq.up_ok h.ok h3 r
      have htl : upL S.ord S.sc (9 - S.ph) S.ph (S.po + 1) = (S.up r).plan := by
        rw [hpl] at hu1
        injection hu1
      have hst' : (S.up r).st = 3 ∨ (S.up r).st = 4 := by
        show (Seq.skip _).st = 3 ∨ (Seq.skip _).st = 4
        unfold Seq.skip
        simp only
        split
        · exact .inr rfl
        · exact .inl h3
      have hcode : (if R.code = 0 then r else R.code) = (S.up r).rs := by rw [hu6, h.code]
      by_cases h4 : (S.up r).st = 4
      · have hnil := hu3.1 h4
        have e : ({ R with plan := upL S.ord S.sc (9 - S.ph) S.ph (S.po + 1), code := if R.code = 0 then r else R.code } : RSeq).settle = { R with plan := [], code := (S.up r).rs, done := true } := by
          unfold RSeq.settle
          rw [htl, hnil, hcode]
          simp [hdn, hsl]
        rw [hdn] at e
        rw [e]
        exact ⟨hok, hu2, by rw [hu4]; exact h.ord, hnil.symm, by simp [h4], by rw [hsl]; simp [h4], by simp [h4], rfl, by rw [hu5]; exact h.good, h.nodup, (fun h' => by rw [h4] at h'; cases h'), by rw [hu4]; exact h.glen⟩
      · have h33 : (S.up r).st = 3 := by omega
        have hne : (S.up r).plan ≠ [] := fun e => h4 (hu3.2 e)
        have hl : (S.up r).plan.length > 0 := List.length_pos_iff.2 hne
        have e : ({ R with plan := upL S.ord S.sc (9 - S.ph) S.ph (S.po + 1), code := if R.code = 0 then r else R.code } : RSeq).settle = { R with plan := (S.up r).plan, code := (S.up r).rs } := by
          unfold RSeq.settle
          rw [htl, hcode]
          simp [hl]
        rw [hdn] at e
        rw [e]
        exact ⟨hok, hu2, by rw [hu4]; exact h.ord, rfl, by simp [h33], by rw [hsl]; simp [h33], by rw [h.done]; simp [h33, h3], rfl, by rw [hu5]; exact h.good, h.nodup, (fun h' => by rw [h33] at h'; cases h'), by rw [hu4]; exact h.glen⟩
    · have hnil := (Seq.plan_nil h.ok h.hit).2 (by omega)
      rw [h.plan, hnil]
      simp only [h1, h3, if_false]
      exact ⟨h, trivial⟩
theorem sim_abort {S : Seq} {R : RSeq} (h : Sim S R) : Sim S.abort.1 R.abort.1 ∧ R.abort.2 = S.abort.2 := by
  unfold Seq.abort RSeq.abort
  by_cases h1 : S.st = 1
  · have hdn : R.down = true := by rw [h.down]; simp [h1]
    simp only [h1, hdn, if_true]
    exact ⟨sim_undo h.ok h.ord h.good h.nodup (by rw [h.done]; simp [h1]) h.glen 20, trivial⟩
  · have hdn : R.down = false := by rw [h.down]; simp [h1]
    simp only [h1, hdn, if_false, Bool.false_eq_true]
    exact ⟨h, trivial⟩
theorem sim_wake {S : Seq} {R : RSeq} (h : Sim S R) : Sim S.wake.1 R.wake.1 ∧ R.wake.2 = S.wake.2 := by
  unfold Seq.wake RSeq.wake
  by_cases h1 : S.st = 2
  · have hdn : R.sleeps = true := by rw [h.sleeps]; simp [h1]
    simp only [h1, hdn, if_true]
    exact ⟨sim_undo h.ok h.ord h.good h.nodup (by rw [h.done]; simp [h1]) h.glen 0, trivial⟩
  · have hdn : R.sleeps = false := by rw [h.sleeps]; simp [h1]
    simp only [h1, hdn, if_false, Bool.false_eq_true]
    exact ⟨h, trivial⟩
theorem sim_result {S : Seq} {R : RSeq} (h : Sim S R) : R.result = S.result := by
  unfold RSeq.result Seq.result
  rw [h.done, h.code]
  by_cases h4 : S.st = 4 <;> simp [h4]
theorem phaseL_row (ord : List Nat) (p : Nat) (h : 1 ≤ p ∧ p ≤ 4) : phaseL p ord (decide (2 ≤ p)) = rowAll ord p := by
  unfold phaseL rowAll
  refine List.map_congr_left fun i hi => ?_
  have : p = 1 ∨ p = 2 ∨ p = 3 ∨ p = 4 := by omega
  rcases this with rfl | rfl | rfl | rfl <;> simp [devAt, rev]
theorem sim_init {ord : List Nat} (ho : OkOrd ord) : Sim (seq0 ord) (rseq0 ord) := by
  have hpl : phaseL 1 ord false ++ phaseL 2 ord true ++ phaseL 3 ord true ++ phaseL 4 ord true = downL ord := by
    have h1 := phaseL_row ord 1 (by omega)
    have h2 := phaseL_row ord 2 (by omega)
    have h3 := phaseL_row ord 3 (by omega)
    have h4 := phaseL_row ord 4 (by omega)
    simp only [show decide (2 ≤ 1) = false from rfl, show decide (2 ≤ 2) = true from rfl, show decide (2 ≤ 3) = true from rfl, show decide (2 ≤ 4) = true from rfl] at h1 h2 h3 h4
    rw [h1, h2, h3, h4, downL_rows]
    simp
  have hok := seq0_ok ho
  unfold rseq0
  rw [hpl]
  by_cases hz : ord.length = 0
  · have hd : downL ord = [] := by simp [downL, hz]
    have e : ({ ord := ord, plan := downL ord, good := [], down := true, sleeps := false, done := false, code := 0 } : RSeq).settle = { ord := ord, plan := [], good := [], down := false, sleeps := true, done := false, code := 0 } := by
      unfold RSeq.settle
      rw [hd]
      simp
    rw [e]
    exact ⟨hok, (fun h => by simp [seq0, hz] at h), rfl, by simp [Seq.plan, seq0, hz], by simp [seq0, hz], by simp [seq0, hz], by simp [seq0, hz], rfl, scIs_nil, by simp, (fun h => by simp [seq0, hz] at h), by simp⟩
  · have hl : (downL ord).length > 0 := by simp [downL]; omega
    have e : ({ ord := ord, plan := downL ord, good := [], down := true, sleeps := false, done := false, code := 0 } : RSeq).settle = { ord := ord, plan := downL ord, good := [], down := true, sleeps := false, done := false, code := 0 } := by
      unfold RSeq.settle
      simp [hl]
    rw [e]
    exact ⟨hok, (fun h => by simp [seq0, hz] at h), rfl, by simp [Seq.plan, seq0, hz, Seq.idx], by simp [seq0, hz], by simp [seq0, hz], by simp [seq0, hz], rfl, scIs_nil, by simp, (fun _ => by simp [seq0, Seq.idx]), by simp⟩
end Go.Proofs.Ytdocdgghphhdpaa

