/- The devices that the laws of chapter 28 draw, plain. -/
import Derived.Test.YtdocdgghphhdpaaRpmTMg
import Derived.Test.YtdocdgghphhdpaaRpmP2Mg
import Derived.Test.YtdocdgghphhdpaaMgRpInUse6
namespace Go.Proofs.Ytdocdgghphhdpaa
open Go.RowKit

/-- Is s neither the parent nor in the list? -/
def frB (s par : Int) (l : List Int) : Bool := s != par && !(l.contains s)
theorem frB_nil (s par : Int) : frB s par [] = (s != par) := by simp [frB]
theorem frB_snoc (s par : Int) (l : List Int) (z : Int) : frB s par (l ++ [z]) = (frB s par l && (z != s)) := by
  unfold frB
  by_cases h : z = s
  · subst h; simp
  · have h2 : ¬ s = z := fun e => h e.symm
    have h3 : (z != s) = true := by simpa using h
    rw [h3]
    simp [h2]
def supSt (par : Int) (i : Nat) (out : List Int) (x : Int) : List Int := if frB (umod x i : Int) par out = true then out ++ [(umod x i : Int)] else out
def supTo (par : Int) (i : Nat) (raw : List Int) : List Int := if 0 < i then raw.foldl (supSt par i) [] else []
def someP28 (x : ID) (i : Nat) : Int := (umod x.par (i + 1) : Int) - 1
/-- The first k devices are drawn. -/
def SomeTo28 (raw out : List ID) (k : Nat) : Prop := out.length = k ∧ ∀ (i : Nat) (x : ID), i < k → raw[i]? = some x → ∃ v, out[i]? = some ⟨someP28 x i, v, x.dl % 12, supTo (someP28 x i) i x.sup⟩
theorem SomeTo28.snoc {raw out : List ID} {k : Nat} {x : ID} {v : Value} (h : SomeTo28 raw out k) (hx : raw[k]? = some x) : SomeTo28 raw (out ++ [⟨someP28 x k, v, x.dl % 12, supTo (someP28 x k) k x.sup⟩]) (k + 1) := by
  refine ⟨by rw [List.length_append, h.1]; rfl, fun i s hi hs => ?_⟩
  by_cases e : i = k
  · subst e
    rw [hx] at hs
    injection hs with hs
    subst hs
    exact ⟨v, by rw [List.getElem?_append_right (by rw [h.1]; omega), h.1]; simp⟩
  · obtain ⟨g, hg⟩ := h.2 i s (by omega) hs
    exact ⟨g, by rw [List.getElem?_append_left (by rw [h.1]; omega)]; exact hg⟩
structure SupOk (par : Int) (i : Nat) (n : Nat) (l : List Int) : Prop where
  nd : l.Nodup
  par : par ∉ l
  lt : ∀ s ∈ l, 0 ≤ s ∧ s < (i : Int)
  len : l.length ≤ n
theorem supSt_ok {par : Int} {i : Nat} (hi : 0 < i) {n : Nat} {out : List Int} (h : SupOk par i n out) (x : Int) : SupOk par i (n + 1) (supSt par i out x) := by
  unfold supSt
  split
  · rename_i hf
    unfold frB at hf
    simp only [Bool.and_eq_true, bne_iff_ne, ne_eq, Bool.not_eq_true'] at hf
    have h2 : (umod x i : Int) ∉ out := fun hm => by
      have := List.contains_iff_mem.2 hm
      rw [this] at hf
      cases hf.2
    refine ⟨?_, fun hm => ?_, fun s hs => ?_, by rw [List.length_append]; have := h.len; simp; omega⟩
    · rw [List.nodup_append]
      exact ⟨h.nd, by simp, fun a ha b hb => by rw [List.mem_singleton.1 hb]; rintro rfl; exact h2 ha⟩
    · rcases List.mem_append.1 hm with hm | hm
      · exact h.par hm
      · exact hf.1 (List.mem_singleton.1 hm).symm
    · rcases List.mem_append.1 hs with hs | hs
      · exact h.lt s hs
      · rw [List.mem_singleton.1 hs]
        have := umod_lt x hi
        omega
  · exact ⟨h.nd, h.par, h.lt, by have := h.len; omega⟩
theorem supTo_ok (par : Int) (i : Nat) (raw : List Int) : SupOk par i raw.length (supTo par i raw) := by
  unfold supTo
  split
  · rename_i hi
    have key : ∀ (raw : List Int) (n : Nat) (out : List Int), SupOk par i n out → SupOk par i (n + raw.length) (raw.foldl (supSt par i) out) := by
      intro raw
      induction raw with
      | nil => intro n out h; simpa using h
      | cons a raw ih =>
        intro n out h
        have := ih (n + 1) _ (supSt_ok hi h a)
        rw [List.foldl_cons, List.length_cons, show n + (raw.length + 1) = n + 1 + raw.length by omega]
        exact this
    have := key raw 0 [] ⟨by simp, by simp, by simp, by simp⟩
    simpa using this
  · exact ⟨by simp, by simp, by simp, by simp⟩
/-- Device j counted from the end of n. -/
def revP (n : Nat) (p : Int) : Int := if 0 ≤ p then (n : Int) - 1 - p else -1
def revD (n : Nat) (d : ID) (v : Value) : ID := ⟨revP n d.par, v, d.dl, d.sup.map fun s => (n : Int) - 1 - s⟩
/-- What the laws know of the devices drawn. -/
structure Dev8 (l : List ID) : Prop where
  len : l.length ≤ 8
  par : ∀ (i : Nat) (d : ID), l[i]? = some d → -1 ≤ d.par ∧ d.par < (l.length : Int)
  dl : ∀ (i : Nat) (d : ID), l[i]? = some d → d.dl ≤ 11
  nd : ∀ (i : Nat) (d : ID), l[i]? = some d → d.sup.Nodup ∧ d.par ∉ d.sup
  sup : ∀ (i : Nat) (d : ID), l[i]? = some d → ∀ s ∈ d.sup, 0 ≤ s ∧ s < (l.length : Int)
  sl : ∀ (i : Nat) (d : ID), l[i]? = some d → d.sup.length ≤ 20
  rank : (∀ (i : Nat) (d : ID), l[i]? = some d → d.par < (i : Int) ∧ ∀ s ∈ d.sup, s < (i : Int)) ∨ (∀ (i : Nat) (d : ID), l[i]? = some d → (0 ≤ d.par → (i : Int) < d.par) ∧ ∀ s ∈ d.sup, (i : Int) < s)
theorem SomeTo28.dev8 {raw out : List ID} {n : Nat} (h : SomeTo28 raw out n) (hn : n ≤ raw.length) (h8 : n ≤ 8) (hs : ∀ x ∈ raw, x.sup.length ≤ 20) : Dev8 out := by
  have hl := h.1
  have key : ∀ (i : Nat) (d : ID), out[i]? = some d → ∃ x v, raw[i]? = some x ∧ i < n ∧ d = ⟨someP28 x i, v, x.dl % 12, supTo (someP28 x i) i x.sup⟩ := fun i d hd => by
    have hi := (List.getElem?_eq_some_iff.1 hd).1
    rw [hl] at hi
    obtain ⟨v, hv⟩ := h.2 i _ hi (List.getElem?_eq_getElem (by omega))
    rw [hd] at hv
    injection hv with hv
    exact ⟨_, v, List.getElem?_eq_getElem (by omega), hi, hv⟩
  have hp : ∀ (x : ID) (i : Nat), -1 ≤ someP28 x i ∧ someP28 x i < (i : Int) := fun x i => by
    have := umod_lt x.par (show 0 < i + 1 by omega)
    unfold someP28
    omega
  refine ⟨by omega, fun i d hd => ?_, fun i d hd => ?_, fun i d hd => ?_, fun i d hd => ?_, fun i d hd => ?_, .inl fun i d hd => ?_⟩
  all_goals
    obtain ⟨x, v, hx, hi, rfl⟩ := key i d hd
    have hq := hp x i
    have hk := supTo_ok (someP28 x i) i x.sup
  · exact ⟨hq.1, by show someP28 x i < _; omega⟩
  · show x.dl % 12 ≤ 11
    omega
  · exact ⟨hk.nd, hk.par⟩
  · intro s hs
    have := hk.lt s hs
    omega
  · have := hk.len
    have := hs x (List.mem_of_getElem? hx)
    show (supTo (someP28 x i) i x.sup).length ≤ 20
    omega
  · exact ⟨hq.2, fun s hs => (hk.lt s hs).2⟩
theorem SomeTo28.rank {raw out : List ID} {n : Nat} (h : SomeTo28 raw out n) (hn : n ≤ raw.length) (i : Nat) (d : ID) (hd : out[i]? = some d) : d.par < (i : Int) ∧ ∀ s ∈ d.sup, s < (i : Int) := by
  have hi := (List.getElem?_eq_some_iff.1 hd).1
  rw [h.1] at hi
  have hx : raw[i]? = some raw[i] := List.getElem?_eq_getElem (by omega)
  obtain ⟨v, hv⟩ := h.2 i _ hi hx
  rw [hd] at hv
  injection hv with hv
  subst hv
  have hk := supTo_ok (someP28 raw[i] i) i raw[i].sup
  refine ⟨?_, fun s hs => (hk.lt s hs).2⟩
  have := umod_lt raw[i].par (show 0 < i + 1 by omega)
  show someP28 raw[i] i < _
  unfold someP28
  omega
theorem Dev8.rev {out B : List ID} (h : Dev8 out) (hr : ∀ (i : Nat) (d : ID), out[i]? = some d → d.par < (i : Int) ∧ ∀ s ∈ d.sup, s < (i : Int)) (hl : B.length = out.length) (hB : ∀ (i : Nat) (d : ID), out[i]? = some d → ∃ v, B[out.length - 1 - i]? = some (revD out.length d v)) : Dev8 B := by
  have key : ∀ (i : Nat) (d : ID), B[i]? = some d → ∃ x v, out[out.length - 1 - i]? = some x ∧ i < out.length ∧ d = revD out.length x v := fun i d hd => by
    have hi := (List.getElem?_eq_some_iff.1 hd).1
    rw [hl] at hi
    have hx : out[out.length - 1 - i]? = some out[out.length - 1 - i] := List.getElem?_eq_getElem (by omega)
    obtain ⟨v, hv⟩ := hB _ _ hx
    rw [show out.length - 1 - (out.length - 1 - i) = i by omega, hd] at hv
    injection hv with hv
    exact ⟨_, v, hx, hi, hv⟩
  have h8 := h.len
  refine ⟨by omega, fun i d hd => ?_, fun i d hd => ?_, fun i d hd => ?_, fun i d hd => ?_, fun i d hd => ?_, .inr fun i d hd => ?_⟩
  all_goals
    obtain ⟨x, v, hx, hi, rfl⟩ := key i d hd
    have h1 := h.par _ x hx
    have h4 := hr _ x hx
  · rw [hl]
    show -1 ≤ revP out.length x.par ∧ revP out.length x.par < _
    unfold revP
    split <;> omega
  · exact h.dl _ x hx
  · have h2 := h.nd _ x hx
    refine ⟨?_, fun hm => ?_⟩
    · show (x.sup.map fun s => (out.length : Int) - 1 - s).Nodup
      refine List.Pairwise.map _ (fun a b hab => ?_) h2.1
      intro e
      exact hab (by omega)
    · obtain ⟨s, hs, e⟩ := List.mem_map.1 hm
      have e : (out.length : Int) - 1 - s = revP out.length x.par := e
      have h3 := h.sup _ x hx s hs
      unfold revP at e
      split at e
      · have e2 : s = x.par := by omega
        rw [e2] at hs
        exact h2.2 hs
      · omega
  · intro s hs
    obtain ⟨t, ht, rfl⟩ := List.mem_map.1 (show s ∈ x.sup.map fun s => (out.length : Int) - 1 - s from hs)
    have h3 := h.sup _ x hx t ht
    omega
  · show (x.sup.map fun s => (out.length : Int) - 1 - s).length ≤ 20
    rw [List.length_map]
    exact h.sl _ x hx
  · refine ⟨fun h0 => ?_, fun s hs => ?_⟩
    · have h0 : 0 ≤ revP out.length x.par := h0
      show (i : Int) < revP out.length x.par
      unfold revP at h0 ⊢
      split at h0
      · rename_i hp
        rw [if_pos hp]
        omega
      · omega
    · obtain ⟨t, ht, rfl⟩ := List.mem_map.1 (show s ∈ x.sup.map fun s => (out.length : Int) - 1 - s from hs)
      have := h4.2 t ht
      omega
theorem mem_linkOf {i : Nat} {d : ID} {p : Int × Int} : p ∈ linkOf i d ↔ p.1 = (i : Int) ∧ ((0 ≤ d.par ∧ p.2 = d.par) ∨ p.2 ∈ d.sup) := by
  obtain ⟨a, b⟩ := p
  unfold linkOf
  rw [List.mem_append, List.mem_map]
  constructor
  · rintro (h | ⟨s, hs, e⟩)
    · split at h
      · rename_i h0
        have := List.mem_singleton.1 h
        injection this with e1 e2
        exact ⟨e1, .inl ⟨h0, e2⟩⟩
      · cases h
    · injection e with e1 e2
      exact ⟨e1.symm, .inr (by rw [← e2]; exact hs)⟩
  · rintro ⟨h1, h2 | h2⟩
    · left
      simp only at h1 h2
      rw [if_pos h2.1, h1, h2.2]
      exact List.mem_singleton.2 rfl
    · right
      simp only at h1 h2
      exact ⟨b, h2, by rw [h1]⟩
theorem mem_idLinks {p : Int × Int} : ∀ {l : List ID} {i0 : Nat}, p ∈ idLinks i0 l ↔ ∃ (k : Nat) (d : ID), l[k]? = some d ∧ p ∈ linkOf (i0 + k) d
  | [], i0 => by simp [idLinks]
  | a :: l, i0 => by
    rw [idLinks, List.mem_append, mem_idLinks]
    constructor
    · rintro (h | ⟨k, d, hd, h⟩)
      · exact ⟨0, a, rfl, h⟩
      · exact ⟨k + 1, d, hd, by rw [show i0 + (k + 1) = i0 + 1 + k by omega]; exact h⟩
    · rintro ⟨k, d, hd, h⟩
      cases k with
      | zero =>
        injection hd with hd
        subst hd
        exact .inl h
      | succ k => exact .inr ⟨k, d, hd, by rw [show i0 + 1 + k = i0 + (k + 1) by omega]; exact h⟩
theorem linkOf_nodup {i : Nat} {d : ID} (h : d.sup.Nodup ∧ d.par ∉ d.sup) : (linkOf i d).Nodup := by
  unfold linkOf
  rw [List.nodup_append]
  refine ⟨by split <;> simp, ?_, fun a ha b hb e => ?_⟩
  · refine List.Pairwise.map _ (fun a b hab => ?_) h.1
    intro e
    injection e with _ e
    exact hab e
  · subst e
    split at ha
    · obtain ⟨s, hs, e⟩ := List.mem_map.1 hb
      have := List.mem_singleton.1 ha
      rw [this] at e
      injection e with _ e
      exact h.2 (by rw [← e]; exact hs)
    · cases ha
theorem idLinks_nodup : ∀ {l : List ID} {i0 : Nat}, (∀ d ∈ l, d.sup.Nodup ∧ d.par ∉ d.sup) → (idLinks i0 l).Nodup
  | [], _, _ => by simp [idLinks]
  | a :: l, i0, h => by
    rw [idLinks, List.nodup_append]
    refine ⟨linkOf_nodup (h a (List.mem_cons_self ..)), idLinks_nodup (fun d hd => h d (List.mem_cons_of_mem _ hd)), fun x hx y hy e => ?_⟩
    subst e
    obtain ⟨k, d, hd, hm⟩ := mem_idLinks.1 hy
    have h1 := (mem_linkOf.1 hx).1
    have h2 := (mem_linkOf.1 hm).1
    omega
/-- New accepts the devices drawn; the manager's numbers are small, its order is one. -/
theorem Dev8.new {l : List ID} (h : Dev8 l) : newE l = 0 ∧ MOk (newRM l) ∧ Ordd (newRM l) ∧ (∀ p ∈ (newRM l).L, p.1 < l.length ∧ p.2 < l.length) := by
  have h8 := h.len
  have hok : ∀ d ∈ l, idOk l.length d := fun d hd => by
    obtain ⟨i, hi⟩ := List.getElem?_of_mem hd
    have h1 := h.par i d hi
    have h2 := h.dl i d hi
    exact ⟨h1.1, h1.2, by omega⟩
  have hlen : (idLinks 0 l).length ≤ 168 := by
    have := idLinks_bound (B := 20) 0 l (fun d hd => by obtain ⟨i, hi⟩ := List.getElem?_of_mem hd; exact h.sl i d hi)
    omega
  have hmem : ∀ p ∈ idLinks 0 l, ∃ (k : Nat) (d : ID), l[k]? = some d ∧ p.1 = (k : Int) ∧ ((0 ≤ d.par ∧ p.2 = d.par) ∨ p.2 ∈ d.sup) := fun p hp => by
    obtain ⟨k, d, hd, hm⟩ := mem_idLinks.1 hp
    rw [Nat.zero_add] at hm
    obtain ⟨h1, h2⟩ := mem_linkOf.1 hm
    exact ⟨k, d, hd, h1, h2⟩
  have hlk : ∀ p ∈ idLinks 0 l, LinkOk l.length p := fun p hp => by
    obtain ⟨k, d, hd, h1, h2⟩ := hmem p hp
    have hk := (List.getElem?_eq_some_iff.1 hd).1
    have h3 := h.par k d hd
    refine ⟨by omega, by omega, ?_, ?_⟩
    · rcases h2 with h2 | h2
      · omega
      · exact (h.sup k d hd _ h2).1
    · rcases h2 with h2 | h2
      · omega
      · exact (h.sup k d hd _ h2).2
  have hb : basicM (l.length : Int) (idLinks 0 l) = 0 := basicM_ok ⟨by omega, by omega, by omega, hlk⟩ (idLinks_nodup fun d hd => by obtain ⟨i, hi⟩ := List.getElem?_of_mem hd; exact h.nd i d hi)
  have hlt : ∀ p ∈ toNs (idLinks 0 l), p.1 < l.length ∧ p.2 < l.length := toNs_lt hlk
  have hac : Acyc (toNs (idLinks 0 l)) := by
    have hN : ∀ p ∈ toNs (idLinks 0 l), ∃ (k : Nat) (d : ID), l[k]? = some d ∧ p.1 = k ∧ ((0 ≤ d.par ∧ (p.2 : Int) = d.par) ∨ (p.2 : Int) ∈ d.sup) := fun p hp => by
      obtain ⟨q, hq, rfl⟩ := List.mem_map.1 hp
      obtain ⟨k, d, hd, h1, h2⟩ := hmem q hq
      have h3 := hlk q hq
      refine ⟨k, d, hd, by show q.1.toNat = k; omega, ?_⟩
      rw [show ((toN q).2 : Int) = q.2 by show ((q.2.toNat : Nat) : Int) = q.2; have := h3.2.2.1; omega]
      exact h2
    rcases h.rank with hr | hr
    · have key : ∀ {a b : Nat}, Req (toNs (idLinks 0 l)) a b → b < a := by
        have one : ∀ {a b : Nat}, (a, b) ∈ toNs (idLinks 0 l) → b < a := fun {a b} hm => by
          obtain ⟨k, d, hd, h1, h2⟩ := hN _ hm
          have h3 := hr k d hd
          simp only at h1 h2
          rcases h2 with h2 | h2
          · omega
          · have := h3.2 _ h2
            omega
        intro a b hq
        induction hq with
        | one hL => exact one hL
        | step hL _ ih => exact Nat.lt_trans ih (one hL)
      exact fun a ha => by have := key ha; omega
    · have key : ∀ {a b : Nat}, Req (toNs (idLinks 0 l)) a b → a < b := by
        have one : ∀ {a b : Nat}, (a, b) ∈ toNs (idLinks 0 l) → a < b := fun {a b} hm => by
          obtain ⟨k, d, hd, h1, h2⟩ := hN _ hm
          have h3 := hr k d hd
          simp only at h1 h2
          rcases h2 with h2 | h2
          · have := h3.1 h2.1
            omega
          · have := h3.2 _ h2
            omega
        intro a b hq
        induction hq with
        | one hL => exact one hL
        | step hL _ ih => exact Nat.lt_trans (one hL) ih
      exact fun a ha => by have := key ha; omega
  have hfull : (greedy l.length (toNs (idLinks 0 l))).length = l.length := (greedy_full hlt).2 hac
  have hgo := greedy_ok l.length (toNs (idLinks 0 l))
  refine ⟨?_, ⟨?_, hlt, ?_, fun i => ?_, fun i hi => hgo.lt i hi, hfull⟩, ⟨hlt, greedy_prefix _ _, fun v hv => mem_of_full hgo.lt hgo.nodup hfull hv, hgo.nodup, hgo.lt⟩, hlt⟩
  · unfold newE
    rw [if_pos hok]
    unfold checkM
    rw [orderM_ok hb hfull]
  · show l.length ≤ 64
    omega
  · show (toNs (idLinks 0 l)).length ≤ 1024
    rw [toNs_length]
    omega
  · show ((l[i]?).map ID.dl).getD 0 ≤ 1048576
    cases hi : l[i]? with
    | none => exact Nat.zero_le _
    | some d =>
      have := h.dl i d hi
      show d.dl ≤ _
      omega
theorem Dev8.dl11 {l : List ID} (h : Dev8 l) (i : Nat) : (newRM l).dl i ≤ 11 := by
  show ((l[i]?).map ID.dl).getD 0 ≤ 11
  cases hi : l[i]? with
  | none => exact Nat.zero_le _
  | some d => exact h.dl i d hi
end Go.Proofs.Ytdocdgghphhdpaa

