/- Walks: law27's awake. -/
import Derived.Test.YtdocdgghphhdpaaDevW12Mg
import Derived.Test.YtdocdgghphhdpaaMgDeviceTree15
import Derived.Test.YtdocdgghphhdpaaBase
import Derived.Test.YtdocdgghphhdpaaMgDeviceTree0
import Derived.Test.YtdocdgghphhdpaaProg
import Derived.Deep.Slices
import Derived.ChangeSame
namespace Go.Proofs.Ytdocdgghphhdpaa
open Go.RowKit

def demoRl (k : Nat) : List Int := if k = 0 then [0, 2] else if k = 3 then [2] else []
def demoD (g : Nat) : PD := { par := -1, rf := fun k => if k = 0 then .slice (some ⟨g, 0, none⟩) 2 2 else if k = 3 then .slice (some ⟨g + 1, 0, none⟩) 1 1 else .slice none 0 0, df := fun k => ([0, 3, 3, 4, 4, 4] : List Int).getD k 0, wd := 2, ws := 3 }
theorem demo_ch1 : changeM demoRl 4 0 = ([0, 2], [], 0) := by decide +kernel
theorem demo_ch2 : changeM demoRl 0 3 = ([], [0], 0) := by decide +kernel
theorem demo_t1 (g : Nat) : targetM (demoD g) 3 true = (2, 0) := by rfl
theorem demo_t2 (g : Nat) : targetM (demoD g) 4 true = (0, 13) := by rfl
theorem demo_c1 (g : Nat) : dcheckM [⟨demoD g, demoRl⟩] 3 = 0 := by rfl
theorem demo_c2 (g : Nat) : dcheckM [⟨demoD g, demoRl⟩] 2 = 1 := by rfl
theorem demo_rails {w w' : World} (h : Fr [] ((w.alloc (.cells #[.int .i64 0, .int .i64 2] 3)).alloc (.cells #[.int .i64 2] 3)) w') : RailsAt w' (demoD w.heap.size) demoRl := by
  refine RailsAt.fr0 (w := (w.alloc (.cells #[.int .i64 0, .int .i64 2] 3)).alloc (.cells #[.int .i64 2] 3)) (fun k hk => ?_) h
  have h4 : k = 0 ∨ k = 1 ∨ k = 2 ∨ k = 3 := by omega
  rcases h4 with rfl | rfl | rfl | rfl
  · exact ⟨some ⟨w.heap.size, 0, none⟩, 2, rfl, (row_lit w #[.int .i64 0, .int .i64 2] 3 rfl).fr0 ((Fr.refl [] _).alloc _)⟩
  · exact ⟨none, 0, rfl, Row.nil _ _⟩
  · exact ⟨none, 0, rfl, Row.nil _ _⟩
  · exact ⟨some ⟨w.heap.size + 1, 0, none⟩, 1, rfl, row_lit _ #[.int .i64 2] 3 (by simp)⟩
theorem demo_len (k : Nat) : (demoRl k).length ≤ 4096 := by
  unfold demoRl
  split
  · decide
  · split <;> decide
abbrev demoAt (w : World) (b g : Nat) : Prop := w.cell? ⟨b, 0, none⟩ = some (.int .i64 (-1)) ∧ w.cell? ⟨b, 1, none⟩ = some (.slice (some ⟨g, 0, none⟩) 2 2) ∧ w.cell? ⟨b, 2, none⟩ = some (.slice none 0 0) ∧ w.cell? ⟨b, 3, none⟩ = some (.slice none 0 0) ∧ w.cell? ⟨b, 4, none⟩ = some (.slice (some ⟨g + 1, 0, none⟩) 1 1) ∧ w.cell? ⟨b, 5, none⟩ = some (.int .i64 0) ∧ w.cell? ⟨b, 6, none⟩ = some (.int .i64 3) ∧ w.cell? ⟨b, 7, none⟩ = some (.int .i64 3) ∧ w.cell? ⟨b, 8, none⟩ = some (.int .i64 4) ∧ w.cell? ⟨b, 9, none⟩ = some (.int .i64 4) ∧ w.cell? ⟨b, 10, none⟩ = some (.int .i64 4) ∧ w.cell? ⟨b, 11, none⟩ = some (.int .i64 2) ∧ w.cell? ⟨b, 12, none⟩ = some (.int .i64 3)
theorem demoAt.fr0 {w w' : World} {b g : Nat} (h : demoAt w b g) (k : Fr [] w w') : demoAt w' b g := PD13.fr0 (d := demoD g) h k
set_option maxHeartbeats 8000000 in
set_option maxRecDepth 100000 in
theorem awake27_any (w : World) : Calls Try.prog 15 #[] w fun e w' => e = .returned (.bool true) ∧ Fr [] w w' := by
  obtain ⟨wa, hwa⟩ : ∃ wa, wa = ((w.alloc (.cells #[.int .i64 0, .int .i64 2] 3)).alloc (.cells #[.int .i64 2] 3)).alloc (.cells (demoD w.heap.size).cells 46) := ⟨_, rfl⟩
  have hwa0 := hwa
  have HRL : Hid (∀ w', Fr [] wa w' → RailsAt w' (demoD w.heap.size) demoRl) := hide (fun w' h => demo_rails (Fr.call (by rw [hwa]; exact (Fr.refl _ _).alloc _) h))
  have HF : Hid (Fr [] w wa) := hide (by rw [hwa]; exact (((Fr.refl _ _).alloc _).alloc _).alloc _)
  have HB : Hid (demoAt wa (w.heap.size + 2) w.heap.size) := hide (by
    have h := PD13.new ((w.alloc (.cells #[.int .i64 0, .int .i64 2] 3)).alloc (.cells #[.int .i64 2] 3)) 46 (demoD w.heap.size)
    rw [← hwa] at h
    rw [show ((w.alloc (.cells #[.int .i64 0, .int .i64 2] 3)).alloc (.cells #[.int .i64 2] 3)).heap.size = w.heap.size + 2 by simp] at h
    exact h)
  have HW := hide hwa
  clear hwa
  go_enter Try.func15, Try.ntmps15
  go_upto_region 2 with (fail)
  have hx := HW.out
  simp only [PD.cells, demoD] at hx
  rw [show (((w.alloc (.cells #[.int .i64 0, .int .i64 2] 3)).alloc (.cells #[.int .i64 2] 3)).alloc (.cells #[.int .i64 (-1), .slice (some ⟨w.heap.size, 0, none⟩) 2 2, .slice none 0 0, .slice none 0 0, .slice (some ⟨w.heap.size + 1, 0, none⟩) 1 1, .int .i64 0, .int .i64 3, .int .i64 3, .int .i64 4, .int .i64 4, .int .i64 4, .int .i64 2, .int .i64 3] 46)) = wa from HW.out.symm]
  clear HW hx hwa0
  generalize w.heap.size = g at HRL HB ⊢
  obtain ⟨c0, c1, c2, c3, c4, c5, c6, c7, c8, c9, c10, c11, c12⟩ := HB.out
  go_wp2_with fail
  refine (change27_any (demoD g) demoRl 4 0 wa (HRL.out wa (Fr.refl _ _)) demo_len).mono ?_
  rintro e w1 ⟨v1, v2, rfl, ho1, ho2, hf1⟩
  rw [demo_ch1] at ho1 ho2 ⊢
  obtain ⟨A1, p1, rfl, -, r1, -⟩ := own_slice ho1
  obtain ⟨A2, p2, rfl, -, -, -⟩ := own_slice ho2
  have HR1 := hide r1
  clear ho1 ho2 r1 c0 c1 c2 c3 c4 c5 c6 c7 c8 c9 c10 c11 c12
  obtain ⟨c0, c1, c2, c3, c4, c5, c6, c7, c8, c9, c10, c11, c12⟩ := HB.out.fr0 hf1
  go_wp2_with fail
  refine (change27_any (demoD g) demoRl 0 3 w1 (HRL.out w1 hf1) demo_len).mono ?_
  rintro e w2 ⟨v3, v4, rfl, ho1, ho2, hf2⟩
  rw [demo_ch2] at ho1 ho2 ⊢
  obtain ⟨A3, p3, rfl, -, -, -⟩ := own_slice ho1
  obtain ⟨A4, p4, rfl, -, r4, -⟩ := own_slice ho2
  have HR4 := hide r4
  have hf02 := hf1.call hf2
  clear ho1 ho2 r4 c0 c1 c2 c3 c4 c5 c6 c7 c8 c9 c10 c11 c12
  obtain ⟨c0, c1, c2, c3, c4, c5, c6, c7, c8, c9, c10, c11, c12⟩ := HB.out.fr0 hf02
  go_wp2_with fail
  refine (target27_any (demoD g) 3 true w2).mono ?_
  rintro e w3 ⟨rfl, hf3⟩
  rw [demo_t1]
  have hf03 := hf02.call hf3
  clear c0 c1 c2 c3 c4 c5 c6 c7 c8 c9 c10 c11 c12
  obtain ⟨c0, c1, c2, c3, c4, c5, c6, c7, c8, c9, c10, c11, c12⟩ := HB.out.fr0 hf03
  go_wp2_with fail
  refine (target27_any (demoD g) 4 true w3).mono ?_
  rintro e w4 ⟨rfl, hf4⟩
  rw [demo_t2]
  have hf04 := hf03.call hf4
  clear c0 c1 c2 c3 c4 c5 c6 c7 c8 c9 c10 c11 c12
  have HR1b := hide (HR1.out.fr0 ((hf2.call hf3).call hf4))
  have HR4b := hide (HR4.out.fr0 (hf3.call hf4))
  go_wp2_with fail
  refine (equalInts_any A1 (some ⟨w4.heap.size, 0, none⟩) p1 2 [0, 2] [0, 2] _ (HR1b.out.fr0 ((Fr.refl [] _).alloc _)) (row_lit w4 _ _ rfl) (by simp) (by simp)).mono ?_
  rintro e w5 ⟨rfl, hf5⟩
  rw [decide_eq_true rfl]
  have hf45 : Fr [] w4 w5 := ((Fr.refl [] _).alloc _).call hf5
  have hf05 := hf04.call hf45
  go_wp2_with fail
  refine (equalInts_any A4 (some ⟨w5.heap.size, 0, none⟩) p4 1 [0] [0] _ ((HR4b.out.fr0 hf45).fr0 ((Fr.refl [] _).alloc _)) (row_lit w5 _ _ rfl) (by simp) (by simp)).mono ?_
  rintro e w6 ⟨rfl, hf6⟩
  rw [decide_eq_true rfl]
  have hf06 := (hf05.alloc _).call hf6
  obtain ⟨c0, c1, c2, c3, c4, c5, c6, c7, c8, c9, c10, c11, c12⟩ := HB.out.fr0 hf06
  go_wp2_with fail
  have hr7 := row_lit w6 (demoD g).cells 46 rfl
  refine (check27_any (some ⟨w6.heap.size, 0, none⟩) 1 [⟨demoD g, demoRl⟩] 3 _ ⟨hr7, fun x hx => ?_⟩ (fun x hx k => ?_) (by simp [maxLen])).mono ?_
  · rw [List.mem_singleton.1 hx]
    exact HRL.out _ (hf06.alloc _)
  · rw [List.mem_singleton.1 hx]
    exact demo_len k
  rintro e w7 ⟨rfl, hf7⟩
  rw [demo_c1]
  have hf07 := (hf06.alloc _).call hf7
  clear c0 c1 c2 c3 c4 c5 c6 c7 c8 c9 c10 c11 c12 hr7
  obtain ⟨c0, c1, c2, c3, c4, c5, c6, c7, c8, c9, c10, c11, c12⟩ := HB.out.fr0 hf07
  go_wp2_with fail
  have hr8 := row_lit w7 (demoD g).cells 46 rfl
  refine (check27_any (some ⟨w7.heap.size, 0, none⟩) 1 [⟨demoD g, demoRl⟩] 2 _ ⟨hr8, fun x hx => ?_⟩ (fun x hx k => ?_) (by simp [maxLen])).mono ?_
  · rw [List.mem_singleton.1 hx]
    exact HRL.out _ (hf07.alloc _)
  · rw [List.mem_singleton.1 hx]
    exact demo_len k
  rintro e w8 ⟨rfl, hf8⟩
  rw [demo_c2]
  have hf08 := (hf07.alloc _).call hf8
  clear c0 c1 c2 c3 c4 c5 c6 c7 c8 c9 c10 c11 c12 hr8
  go_wp2
  go_ret
  exact ⟨rfl, HF.out.call hf08⟩
end Go.Proofs.Ytdocdgghphhdpaa

/- From the shell's word for a slice of integers that came in to 'Row'. -/
namespace Go.Proofs.Ytdocdgghphhdpaa
open Go.RowKit
theorem spot_of_cell {w : World} {x : Addr} {v : Value} (h : w.cell? x = some v) : x = ⟨x.block, x.off, none⟩ := by
  obtain ⟨b, o, s⟩ := x
  cases s with
  | none => rfl
  | some s =>
    unfold World.cell? at h
    split at h
    · simp at h
    · cases h
theorem add_at (b o i : Nat) : (⟨b, o, none⟩ : Addr).add i = ⟨b, o + i, none⟩ := by
  unfold Addr.add
  split
  · rename_i h; subst h; rfl
  · rfl
theorem isRow_row {k : IntKind} {w : World} {a : Option Addr} {len cap : Nat} {zs : List Int} (h : (a = none ∧ len = 0 ∧ cap = 0 ∧ zs = []) ∨
    ∃ x, a = some x ∧ len ≤ cap ∧ cap ≤ maxLen ∧ zs.length = cap ∧ (∀ i, i < zs.length → w.cell? (x.add i) = some (.int k (zs.getD i 0))) ∧ ∀ n ∈ zs, (Lit.int k n).wf = true) :
    ∃ l : List Int, l.length = len ∧ Row w a (l.map (Value.int k)) ∧ l.length ≤ maxLen ∧ (a = none → cap = 0) ∧ ∀ n ∈ l, (Lit.int k n).wf = true := by
  rcases h with ⟨rfl, rfl, rfl, rfl⟩ | ⟨x, rfl, hl, hm, hz, hc, hw⟩
  · exact ⟨[], rfl, Row.nil _ _, by simp, fun _ => rfl, (fun n hn => by cases hn)⟩
  · have hlen : (zs.take len).length = len := by rw [List.length_take, hz]; omega
    refine ⟨zs.take len, hlen, ?_, by omega, (fun e => by cases e), fun n hn => hw n (List.mem_of_mem_take hn)⟩
    intro h0
    rw [List.length_map, hlen] at h0
    have hx := hc 0 (by omega)
    have hx0 : x.add 0 = x := by simp [Addr.add]
    rw [hx0] at hx
    have hsp := spot_of_cell hx
    refine ⟨x.block, x.off, by rw [← hsp], fun i u hi => ?_⟩
    rw [List.getElem?_map] at hi
    obtain ⟨n, hn, rfl⟩ := Option.map_eq_some_iff.1 hi
    rw [List.getElem?_take] at hn
    split at hn
    · have hi' : i < zs.length := (List.getElem?_eq_some_iff.1 hn).1
      have := hc i hi'
      rw [hsp, add_at] at this
      rw [this, List.getD_eq_getElem?_getD, hn]
      rfl
    · cases hn
end Go.Proofs.Ytdocdgghphhdpaa

/- Arguments that came in, opened: slices whose elements take m cells each. -/
namespace Go.Proofs.Ytdocdgghphhdpaa
open Go.RowKit Go.ChangeShapes Go.WideShapes Go.Deep

section
variable {H : Type} {enc : TypeId × Value → H} {P : Program} {w : World} {base : Nat} {spare : Nat → Bool} {held : Bool}
/-- A slice whose elements' cells are told by f. -/
theorem open_rows {α : Type} {f : α → List Value} {m : Nat} {Wf : α → Prop} {t e : TypeId} (ht : P.underlying t = some (.slice e)) (hC : P.cellsOf e = m) (hm : 0 < m) (hf : ∀ a, (f a).length = m)
    (hop : ∀ n cs y, DataW.trod enc P w base spare held n e cs = some y → ∃ a, cs = f a ∧ Wf a) {A : Option Addr} {len cap : Nat} {d : DataW H} {p : List MemPlace} (h : DataW.Trod enc P w base spare held t (.slice A len cap) d p) :
    ∃ l : List α, l.length = len ∧ Row w A (l.flatMap f) ∧ l.length ≤ maxLen ∧ (A = none → cap = 0) ∧ ∀ a ∈ l, Wf a := by
  obtain ⟨fuel, h⟩ := h
  rcases open_slice ht h with ⟨hcs, _⟩ | ⟨a, len', cap', k, n, D, Pl, hcs, _, hl, hml, hk, _, hi⟩
  · simp [Value.cells] at hcs
    obtain ⟨rfl, rfl, rfl⟩ := hcs
    exact ⟨[], rfl, Row.nil _ _, by simp, fun _ => rfl, by simp⟩
  · simp [Value.cells] at hcs
    obtain ⟨rfl, rfl, rfl⟩ := hcs
    have hlk : len ≤ k := by rw [hk]; split <;> omega
    have hel : ∀ i, ∃ x : List Value × Option α, i < len → (∃ y, x.2 = some y ∧ Wf y ∧ ∀ j u, (f y)[j]? = some u → w.cell? (a.add (i * m + j)) = some u) := fun i => by
      by_cases hil : i < len
      · obtain ⟨cs', hc, ht'⟩ := hi i (by omega)
        obtain ⟨y, rfl, hy⟩ := hop _ _ _ ht'
        obtain ⟨_, hcl, hat⟩ := World.cells?_some hc
        rw [hC] at hat
        refine ⟨([], some y), fun _ => ⟨y, rfl, hy, fun j u hu => ?_⟩⟩
        have hj : j < m := by
          have := (List.getElem?_eq_some_iff.1 hu).1
          rwa [hf] at this
        have := hat j hj
        rw [hu, Go.Deep.add_add] at this
        exact this
      · exact ⟨([], none), fun h => absurd h hil⟩
    have hx : ∀ n, n ≤ len → ∃ l : List α, l.length = n ∧ (∀ y ∈ l, Wf y) ∧ ∀ i y, l[i]? = some y → ∀ j u, (f y)[j]? = some u → w.cell? (a.add (i * m + j)) = some u := fun n => by
      induction n with
      | zero => exact fun _ => ⟨[], rfl, by simp, fun i y h => by simp at h⟩
      | succ n ih =>
        intro hn
        obtain ⟨l, h1, h2, h3⟩ := ih (by omega)
        obtain ⟨x, hx⟩ := hel n
        obtain ⟨y, _, hy1, hy2⟩ := hx (by omega)
        refine ⟨l ++ [y], by simp [h1], fun z hz => ?_, fun i z hz => ?_⟩
        · rcases List.mem_append.1 hz with h | h
          · exact h2 z h
          · rw [List.mem_singleton.1 h]; exact hy1
        · by_cases hil : i < l.length
          · rw [List.getElem?_append_left hil] at hz
            exact h3 i z hz
          · rw [List.getElem?_append_right (by omega)] at hz
            have hi0 : i - l.length = 0 := by
              have := (List.getElem?_eq_some_iff.1 hz).1
              simp at this
              omega
            rw [hi0] at hz
            injection hz with hz
            subst hz
            obtain rfl : i = n := by omega
            exact hy2
    obtain ⟨l, h1, h2, h3⟩ := hx len (Nat.le_refl _)
    refine ⟨l, h1, fun h0 => ?_, by omega, (fun e => by cases e), h2⟩
    rw [flat_length hf] at h0
    have hl0 : 0 < l.length := Nat.pos_of_mul_pos_right h0
    have hg : ∀ q u, (l.flatMap f)[q]? = some u → w.cell? (a.add q) = some u := fun q u hu => by
      have hq : q < l.length * m := by
        have := (List.getElem?_eq_some_iff.1 hu).1
        rwa [flat_length hf] at this
      have hqm : q / m < l.length := Nat.div_lt_of_lt_mul (by rw [Nat.mul_comm]; exact hq)
      obtain ⟨y, hy⟩ : ∃ y, l[q / m]? = some y := ⟨_, List.getElem?_eq_getElem hqm⟩
      have hd : q / m * m + q % m = q := by rw [Nat.mul_comm]; exact Nat.div_add_mod q m
      have := flat_get hf hy (Nat.mod_lt q hm)
      rw [hd, hu] at this
      have h4 := h3 _ y hy (q % m) u this.symm
      rwa [hd] at h4
    have hfirst : ∃ u, (l.flatMap f)[0]? = some u := ⟨_, List.getElem?_eq_getElem (by rw [flat_length hf]; exact h0)⟩
    obtain ⟨u0, hu0⟩ := hfirst
    have hx := hg 0 u0 hu0
    have hx0 : a.add 0 = a := by simp [Addr.add]
    rw [hx0] at hx
    have hsp := spot_of_cell hx
    refine ⟨a.block, a.off, by rw [← hsp], fun i u hi => ?_⟩
    have := hg i u hi
    rw [hsp, add_at] at this
    exact this
end
section
variable {H : Type} {enc : TypeId × Value → H} {w : World} {base : Nat} {spare : Nat → Bool} {held : Bool}
/-- A number that fits into an int. -/
def Fits (x : Int) : Prop := -9223372036854775808 ≤ x ∧ x ≤ 9223372036854775807
theorem fits_of {x : Int} (h : (Lit.int .i64 x).wf = true) : Fits x := by
  simp only [Lit.wf, Bool.and_eq_true, decide_eq_true_eq] at h
  exact h
end
end Go.Proofs.Ytdocdgghphhdpaa

