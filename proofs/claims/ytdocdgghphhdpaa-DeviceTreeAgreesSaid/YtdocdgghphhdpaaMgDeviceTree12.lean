/- slices.Clone at ints, walked. -/
import Derived.Test.YtdocdgghphhdpaaMgDeviceTree2
import Derived.Test.YtdocdgghphhdpaaMgDeviceTree8
import Derived.Lib.Hide
import Derived.Test.YtdocdgghphhdpaaBase
import Derived.OrdersHeld
namespace Go.Proofs.Ytdocdgghphhdpaa
open Go.RowKit
set_option maxHeartbeats 400000 in
theorem clone_any (A : Option Addr) (cp : Nat) (xs : List Value) (w : World) (hr : Row w A xs) (h1 : ∀ u ∈ xs, u.oneCell' = true) (hn : xs.length ≤ 4096) (hA : A = none → cp = 0) :
    Calls Try.prog 59 #[.slice A xs.length cp] w (OwnRet w 3 1 xs.length xs) := by
  obtain ⟨i0, hi0, hz0, hz1, hz2⟩ := info_parts int_info1
  have hq : ∀ (w : World) (a : Option Addr) (n c n' c' : Nat), (binOp .eql 34 (.slice a n c) (.slice none n' c')).run Try.prog w = .ok (.bool a.isNone) w := fun w a n c n' c' => Lib.run_eql_slice_nil w _ _ a n c n' c' Try.underlying34
  rcases A with _ | ad
  · have hx : xs = [] := by
      rcases xs with _ | ⟨x, xs⟩
      · rfl
      · obtain ⟨_, _, h, _⟩ := hr (by simp)
        cases h
    subst hx
    have hc := hA rfl
    subst hc
    clear hA h1 hr hn
    go_enter Try.func59, Try.ntmps59
    go_wp2
    go_ret
    exact ⟨_, rfl, own_nil _ _ _ _, Fr.refl _ _⟩
  · have H1 := hide h1
    have HR := hide hr
    clear hA h1 hr
    go_enter Try.func59, Try.ntmps59
    go_wp2_with (first
      | (at_builtin
         refine wpList_append_row _ rfl (.tmp 5) (.tmp 6) _ rfl w.heap.size 3 i0 (.int .i64 0) 1 8 Try.underlying34 hi0 hz0 hz1 hz2 rfl (by omega) (.slice (some ⟨w.heap.size, 0, none⟩) 0 0) 0 [] rfl
           (own_new w (cs := #[]) (Nat.le_refl _) (by simp) (Nat.le_refl _) (by simp [maxLen])) (some ad) xs.length cp xs rfl (by simp) (HR.out.fr0 ((Fr.refl _ _).alloc _)) H1.out (by simp only [maxLen]; omega) (by omega) (by simp) ?_
         intro v1 w1 hown1 hg1 hat1))
    go_ret
    exact ⟨v1, rfl, by simpa using hown1, ((Fr.refl _ _).alloc _).grown hg1 (by simp [Value.ownBlock])⟩
theorem clone_n (A : Option Addr) (cp n : Nat) (xs : List Value) (w : World) (hl : xs.length = n) (hr : Row w A xs) (h1 : ∀ u ∈ xs, u.oneCell' = true) (hn : n ≤ 4096) (hA : A = none → cp = 0) :
    Calls Try.prog 59 #[.slice A n cp] w (OwnRet w 3 1 n xs) := by
  subst hl
  exact clone_any A cp xs w hr h1 hn hA
end Go.Proofs.Ytdocdgghphhdpaa

/- A region that draws its order and ends in one operation t that waits for every other: what holds for a load (S) is asked only until t has come up. No program is in sight here. -/
namespace Go.Proofs.Ytdocdgghphhdpaa
open Go
section
variable {P : Program} {ops : Array Oper} {Q : Exit → Act → World → Prop} {md : Region.Mode} {S : World → Prop} {t : Nat}
def wpAnyT (P : Program) (md : Region.Mode) (ops : Array Oper) (Q : Exit → Act → World → Prop) (S : World → Prop) (t : Nat) : Nat → Array Bool → Act → World → Prop
  | 0, listed, a, w => Region.ready md ops listed = [] ∧ Q .normal a w
  | fuel + 1, listed, a, w =>
    (Region.ready md ops listed = [] → Q .normal a w) ∧
    ∀ i ∈ Region.ready md ops listed, wpOp P ops Q i (fun a' w' => (i = t ∨ S w') ∧ wpAnyT P md ops Q S t fuel (listed.setIfInBounds i true) a' w') a w
theorem wpAny_of_T : ∀ (fuel : Nat) (listed : Array Bool) (a : Act) (w : World), wpAnyT P md ops Q S t fuel listed a w → wpAny P md ops Q fuel listed a w
  | 0, _, _, _, h => h
  | fuel + 1, _, _, _, h => ⟨h.1, fun i hi => wpOp_mono (fun a' w' h' => wpAny_of_T fuel _ a' w' h'.2) (h.2 i hi)⟩
def ClosedT (md : Region.Mode) (ops : Array Oper) (listed : Array Bool) : Prop := ∀ j o, ops[j]? = some o → listed.getD j false = true → ∀ e ∈ o.after, Region.binds md e = true → listed.getD e.on false = true
def closedB (md : Region.Mode) (ops : Array Oper) (listed : Array Bool) : Bool := (List.range ops.size).all fun j => !(listed.getD j false) || (match ops[j]? with | none => true | some o => o.after.all fun e => !(Region.binds md e) || listed.getD e.on false)
theorem closedB_spec {listed : Array Bool} (h : closedB md ops listed = true) : ClosedT md ops listed := fun j o ho hl e he hb => by
  unfold closedB at h
  have h1 := List.all_eq_true.1 h j (List.mem_range.2 (Array.getElem?_eq_some_iff.1 ho).1)
  rw [hl, ho] at h1
  obtain ⟨k, hk, rfl⟩ := Array.mem_iff_getElem.1 he
  have h2 : (o.after.all fun e => !(Region.binds md e) || listed.getD e.on false) = true := by simpa using h1
  have h3 := Array.all_eq_true.1 h2 k hk
  simpa [hb] using h3
theorem ClosedT.step {listed : Array Bool} {j : Nat} (h : ClosedT md ops listed) (hj : j ∈ Region.ready md ops listed) : ClosedT md ops (listed.setIfInBounds j true) := fun k o ho hl e he hb => by
  refine getD_set_true ?_
  by_cases e0 : j = k
  · subst e0
    obtain ⟨_, oj, hoj, hall⟩ := mem_ready.1 hj
    rw [hoj] at ho
    injection ho with ho
    subst ho
    exact hall e he hb
  · rw [getD_set_ne false e0] at hl
    exact h k o ho hl e he hb
/-- What t waits for, directly or through others. -/
def upB (md : Region.Mode) (ops : Array Oper) (t : Nat) : Array Bool := (List.range ops.size).reverse.foldl (fun m j => if m.getD j false then (match ops[j]? with | none => m | some o => o.after.toList.foldl (fun m e => if Region.binds md e then m.setIfInBounds e.on true else m) m) else m) ((Array.replicate ops.size false).setIfInBounds t true)
def Anc (md : Region.Mode) (ops : Array Oper) (t k : Nat) : Prop := ∀ listed : Array Bool, ClosedT md ops listed → t ∈ Region.ready md ops listed → k = t ∨ listed.getD k false = true
theorem upB_spec : ∀ k, (upB md ops t).getD k false = true → Anc md ops t k := by
  have key : ∀ (l : List Nat) (m : Array Bool), (∀ k, m.getD k false = true → Anc md ops t k) → ∀ k, (l.foldl (fun m j => if m.getD j false then (match ops[j]? with | none => m | some o => o.after.toList.foldl (fun m e => if Region.binds md e then m.setIfInBounds e.on true else m) m) else m) m).getD k false = true → Anc md ops t k := by
    intro l
    induction l with
    | nil => intro m h; exact h
    | cons j l ih =>
      intro m h
      rw [List.foldl_cons]
      refine ih _ (fun k hk => ?_)
      split at hk
      · rename_i hj
        cases ho : ops[j]? with
        | none => rw [ho] at hk; exact h k hk
        | some o =>
          rw [ho] at hk
          have hsub : ∀ (es : List _), (∀ e ∈ es, e ∈ o.after) → ∀ (m : Array Bool), (∀ k, m.getD k false = true → Anc md ops t k) → ∀ k, (es.foldl (fun m e => if Region.binds md e then m.setIfInBounds e.on true else m) m).getD k false = true → Anc md ops t k := by
            intro es
            induction es with
            | nil => intro _ m hm; exact hm
            | cons e es ihe =>
              intro hes m hm
              rw [List.foldl_cons]
              refine ihe (fun x hx => hes x (List.mem_cons_of_mem _ hx)) _ (fun k hk => ?_)
              split at hk
              · rename_i hb
                by_cases e0 : e.on = k
                · subst e0
                  intro listed hc hr
                  rcases h j hj listed hc hr with rfl | hl
                  · obtain ⟨_, oj, hoj, hall⟩ := mem_ready.1 hr
                    rw [hoj] at ho
                    injection ho with ho
                    subst ho
                    exact .inr (hall e (hes e (List.mem_cons_self ..)) hb)
                  · exact .inr (hc j o ho hl e (hes e (List.mem_cons_self ..)) hb)
                · rw [getD_set_ne false e0] at hk
                  exact hm k hk
              · exact hm k hk
          exact hsub o.after.toList (fun e he => by simpa using he) m h k hk
      · exact h k hk
  intro k hk
  refine key _ _ (fun k hk => ?_) k hk
  by_cases e0 : t = k
  · subst e0
    exact fun _ _ _ => .inl rfl
  · exfalso
    rw [getD_set_ne false e0] at hk
    simp [Array.getD_eq_getD_getElem?, Array.getElem?_replicate] at hk
    split at hk <;> simp at hk
theorem wpAnyT_first {i : Nat} {oi : Oper} {v : Value} (hi : ops[i]? = some oi) (hsel : ∀ (j : Nat) (o : Oper) cs b, ops[j]? = some o → o.op ≠ .select cs b)
    (hQ : ∀ c a w, Q (.panic c) (a.put oi.dst v) w → Q (.panic c) a w) (hit : i ≠ t) (ht : Anc md ops t i) :
    ∀ (fuel : Nat) (listed : Array Bool) (a : Act) (w : World), ClosedT md ops listed →
      (∀ j oj, ops[j]? = some oj → j ≠ i → listed.getD j true = false → (∀ e ∈ oj.after, Region.binds md e = true → e.on ≠ i) → oi.apart ops oj = true) →
      i ∈ Region.ready md ops listed → YieldsIf P ops S oi v a → S w →
      wpAnyT P md ops Q S t fuel (listed.setIfInBounds i true) (a.put oi.dst v) w → wpAnyT P md ops Q S t (fuel + 1) listed a w := by
  intro fuel
  induction fuel with
  | zero =>
    intro listed a w _ _ hr hy hS H
    refine ⟨fun h => (by rw [h] at hr; cases hr), fun j hj => ?_⟩
    by_cases hji : j = i
    · subst hji; exact hy.wpOp hi hS ⟨.inr hS, H⟩
    · have := ready_mono hj hji
      rw [H.1] at this
      cases this
  | succ fuel ih =>
    intro listed a w hcl hfree hr hy hS H
    refine ⟨fun h => (by rw [h] at hr; cases hr), fun j hj => ?_⟩
    by_cases hji : j = i
    · subst hji; exact hy.wpOp hi hS ⟨.inr hS, H⟩
    · have h1 := H.2 j (ready_mono hj hji)
      obtain ⟨hjun, oj, hoj, hall⟩ := mem_ready.1 hj
      have hun : listed.getD i false = false := by
        have h0 := (mem_ready.1 hr).1
        rcases Nat.lt_or_ge i listed.size with h' | h'
        · simp [h'] at h0 ⊢; exact h0
        · simp [Array.getElem?_eq_none h'] at h0
      have hnot : ∀ e ∈ oj.after, Region.binds md e = true → e.on ≠ i := fun e he hb heq => by
        have h1 := hall e he hb
        rw [heq, hun] at h1
        cases h1
      have hjt : j ≠ t := fun e => by
        subst e
        rcases ht listed hcl hj with h2 | h2
        · exact hit h2
        · rw [hun] at h2
          cases h2
      have h2 := wpOp_putIf hoj (hfree j oj hoj hji hjun hnot) (fun cs b => hsel i oi cs b hi) (fun cs b => hsel j oj cs b hoj) hQ hy h1
      have hfree' : ∀ k ok, ops[k]? = some ok → k ≠ i → (listed.setIfInBounds j true).getD k true = false →
          (∀ e ∈ ok.after, Region.binds md e = true → e.on ≠ i) → oi.apart ops ok = true := fun k ok hk hki hun hno => by
        refine hfree k ok hk hki ?_ hno
        by_cases hjk : j = k
        · subst hjk; exact hjun
        · rw [getD_set_ne true hjk] at hun; exact hun
      refine wpOp_mono (fun a' w' h3 => ?_) h2
      have hS' : S w' := h3.2.1.resolve_left hjt
      refine ⟨.inr hS', ih (listed.setIfInBounds j true) a' w' (hcl.step hj) hfree' (ready_mono hr (Ne.symm hji)) h3.1 hS' ?_⟩
      rw [Array.setIfInBounds_comm _ _ hji]
      exact h3.2.2
def takeB (md : Region.Mode) (ops : Array Oper) (listed : Array Bool) (t i : Nat) : Bool := Region.free md ops listed i && (Region.ready md ops listed).contains i && closedB md ops listed && (upB md ops t).getD i false && i != t
theorem wpAnyT_take {i : Nat} {oi : Oper} {v : Value} {fuel : Nat} {listed : Array Bool} {a : Act} {w : World} (hi : ops[i]? = some oi)
    (hs : Region.noSelect ops = true) (hf : takeB md ops listed t i = true)
    (hQ : ∀ c a w, Q (.panic c) (a.put oi.dst v) w → Q (.panic c) a w) (hy : YieldsIf P ops S oi v a) (hS : S w)
    (h : wpAnyT P md ops Q S t fuel (listed.setIfInBounds i true) (a.put oi.dst v) w) : wpAnyT P md ops Q S t (fuel + 1) listed a w := by
  unfold takeB at hf
  simp only [Bool.and_eq_true, bne_iff_ne, ne_eq] at hf
  obtain ⟨⟨⟨⟨h1, h2⟩, h3⟩, h4⟩, h5⟩ := hf
  exact wpAnyT_first hi (Region.noSelect_spec hs) hQ h5 (upB_spec i h4) fuel listed a w (closedB_spec h3) (Region.free_spec hi h1) (by simpa using h2) hy hS h
/-- Only one operation may come up: it comes up. -/
theorem wpAnyT_one {i : Nat} {oi : Oper} {fuel : Nat} {listed : Array Bool} {a : Act} {w : World} (hr : Region.ready md ops listed = [i]) (hi : ops[i]? = some oi) (hw : Region.wanted oi (yielded ops a.tmps) = true)
    (h : ∀ K : Act → World → Prop, (∀ a' w', (i = t ∨ S w') → wpAnyT P md ops Q S t fuel (listed.setIfInBounds i true) a' w' → K a' w') → oi.wp P a w K Q) :
    wpAnyT P md ops Q S t (fuel + 1) listed a w := by
  refine ⟨fun h0 => (by rw [hr] at h0; cases h0), fun j hj => ?_⟩
  rw [hr] at hj
  obtain rfl := List.mem_singleton.1 hj
  unfold wpOp
  simp only [hi]
  rw [if_pos hw]
  exact .inl (h _ fun a' w' h1 h2 => ⟨h1, h2⟩)
theorem wpAnyT_done {listed : Array Bool} {a : Act} {w : World} (hr : Region.ready md ops listed = []) (h : Q .normal a w) : ∀ fuel, wpAnyT P md ops Q S t fuel listed a w
  | 0 => ⟨hr, h⟩
  | _ + 1 => ⟨fun _ => h, by rw [hr]; simp⟩
theorem wp_region_T {id : Nat} {a : Act} {w : World} (S : World → Prop) (t : Nat) (hm : P.follows .mixedOrders = true)
    (h : wpAnyT P .any ops Q S t ops.size (Array.replicate ops.size false) a { w with drawn := w.drawn + 1 }) : (Code.region id ops true).wp P Q a w :=
  wp_region_any hm (wpAny_of_T _ _ _ _ h)
end
end Go.Proofs.Ytdocdgghphhdpaa

