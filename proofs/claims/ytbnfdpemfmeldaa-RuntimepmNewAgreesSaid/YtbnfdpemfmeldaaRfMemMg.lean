/- The reference's manager of chapter 28 in memory. -/
import Derived.Test.YtbnfdpemfmeldaaRpmTMg
import Derived.Test.YtbnfdpemfmeldaaRpmMemMg
import Derived.Test.YtbnfdpemfmeldaaMgRuntimeNew1
import Derived.Test.YtbnfdpemfmeldaaMgRuntimeNew3
namespace Go.Proofs.Ytbnfdpemfmeldaa
open Go.RowKit

/-- Where it lies: its block, the blocks of its marks, its counts and its times; the devices; the links. -/
structure RL where
  b : Nat
  ga : Nat
  gu : Nat
  gs : Nat
  top : Nat
  bot : Nat
  Ad : Option Addr
  cd : Nat
  Al : Option Addr
  cl : Nat
def RL.own (P : RL) : List Nat := [P.b, P.ga, P.gu, P.gs]
structure RgIn (w : World) (P : RL) (l : List ID) (s : RS) : Prop where
  blk : Blk w P.b 63 #[.slice P.Ad l.length P.cd, .slice P.Al (idLinks 0 l).length P.cl, .slice (some ⟨P.ga, 0, none⟩) l.length l.length, .slice (some ⟨P.gu, 0, none⟩) l.length l.length, .slice (some ⟨P.gs, 0, none⟩) l.length l.length, uv s.clk]
  dev : Row w P.Ad (idcs l)
  lnk : Row w P.Al (pcs (idLinks 0 l))
  on : FA w P.ga 4 Value.bool l.length s.act
  us : FA w P.gu 3 nv l.length s.use
  sn : FA w P.gs 28 uv l.length s.sin
  low : ∀ i ∈ P.own, P.bot ≤ i ∧ i < P.top
  lod : ∀ ad, P.Ad = some ad → 0 < l.length → ad.block < P.bot
  lol : ∀ ad, P.Al = some ad → P.bot ≤ ad.block ∧ ad.block < P.top ∧ ad.block ∉ P.own
def FrR (P : RL) (base : Nat) (w w' : World) : Prop := ∃ T : List Nat, (∀ i ∈ T, i ∈ P.own ∨ base ≤ i) ∧ Fr T w w'
theorem FrR.of_fr {P : RL} {base : Nat} {w w' : World} (h : Fr [] w w') : FrR P base w w' := ⟨[], by simp, h⟩
theorem FrR.refl (P : RL) (base : Nat) (w : World) : FrR P base w w := .of_fr (Fr.refl _ _)
theorem FrR.trans {P : RL} {base : Nat} {a w w' : World} (h : FrR P base a w) (k : FrR P base w w') : FrR P base a w' := by
  obtain ⟨S, h1, h2⟩ := h
  obtain ⟨T, k1, k2⟩ := k
  exact ⟨S ++ T, fun i hi => (List.mem_append.1 hi).elim (h1 i) (k1 i), (h2.mono (fun i _ hi => List.mem_append_left _ hi)).trans (k2.mono (fun i _ hi => List.mem_append_right _ hi))⟩
theorem FrR.call {P : RL} {base : Nat} {a w w' : World} (h : FrR P base a w) (k : Fr [] w w') : FrR P base a w' := h.trans (.of_fr k)
theorem FrR.set {P : RL} {base : Nat} {a w : World} (h : FrR P base a w) {p : Addr} (hp : p.block ∈ P.own ∨ base ≤ p.block) (u : Value) : FrR P base a (w.setCell p u) :=
  h.trans ⟨[p.block], by simpa using hp, (Fr.refl _ _).set (.inl (by simp)) u⟩
theorem FrR.size {P : RL} {base : Nat} {w w' : World} (h : FrR P base w w') : w.heap.size ≤ w'.heap.size := by
  obtain ⟨S, _, h⟩ := h
  exact h.size
theorem FrR.four {P : RL} {w w' : World} (h : FrR P w.heap.size w w') : Fr P.own w w' := by
  obtain ⟨T, h1, h2⟩ := h
  exact h2.mono (fun k hk hm => by
    rcases h1 k hm with h | h
    · exact h
    · omega)
theorem FrR.mono {P : RL} {base base' : Nat} {w w' : World} (h : FrR P base w w') (hb : base' ≤ base) : FrR P base' w w' := by
  obtain ⟨T, h1, h2⟩ := h
  exact ⟨T, fun i hi => by rcases h1 i hi with h | h
                           · exact .inl h
                           · exact .inr (by omega), h2⟩
section
variable {w w' : World} {P : RL} {l : List ID} {s : RS}
theorem row_fr_if {T : List Nat} {A : Option Addr} (h : Row w A (idcs l)) (k : Fr T w w') (ho : 0 < l.length → Off A T) : Row w' A (idcs l) := by
  by_cases hl : 0 < l.length
  · exact h.fr k (ho hl)
  · have : l = [] := List.length_eq_zero_iff.1 (by omega)
    subst this
    exact Row.nil _ _
theorem RgIn.frT (h : RgIn w P l s) {T : List Nat} (k : Fr T w w') (h1 : ∀ i ∈ T, i ∉ P.own) (h2 : 0 < l.length → Off P.Ad T) (h3 : Off P.Al T) : RgIn w' P l s := by
  have n : ∀ i ∈ P.own, i ∉ T := fun i hi hm => h1 i hm hi
  exact ⟨h.blk.fr k (n _ (by simp [RL.own])), row_fr_if h.dev k h2, h.lnk.fr k h3, h.on.fr k (n _ (by simp [RL.own])), h.us.fr k (n _ (by simp [RL.own])), h.sn.fr k (n _ (by simp [RL.own])), h.low, h.lod, h.lol⟩
/-- A step that turned only blocks above. -/
theorem RgIn.fr (h : RgIn w P l s) {T : List Nat} (k : Fr T w w') (ht : ∀ i ∈ T, P.top ≤ i) (hb : P.bot ≤ P.top) : RgIn w' P l s :=
  h.frT k (fun i hi hm => by have := ht i hi; have := (h.low i hm).2; omega) (fun h0 ad e hm => by have := ht _ hm; have := h.lod ad e h0; omega) (fun ad e hm => by have := ht _ hm; have := (h.lol ad e).2.1; omega)
/-- A step that turned only blocks below. -/
theorem RgIn.frL (h : RgIn w P l s) {T : List Nat} (k : Fr T w w') (ht : ∀ i ∈ T, i < P.bot) (h2 : 0 < l.length → Off P.Ad T) : RgIn w' P l s :=
  h.frT k (fun i hi hm => by have := ht i hi; have := (h.low i hm).1; omega) h2 (fun ad e hm => by have := ht _ hm; have := (h.lol ad e).1; omega)
theorem RgIn.fr0 (h : RgIn w P l s) (k : Fr [] w w') : RgIn w' P l s := h.frT k (by simp) (fun _ _ _ => by simp) (fun _ _ => by simp)
theorem RgIn.offd (h : RgIn w P l s) (T : List Nat) (ht : ∀ i ∈ T, i ∈ P.own) : 0 < l.length → Off P.Ad T := fun h0 ad e hm => by
  have := h.lod ad e h0
  have := (h.low _ (ht _ hm)).1
  omega
theorem RgIn.offl (h : RgIn w P l s) (T : List Nat) (ht : ∀ i ∈ T, i ∈ P.own) : Off P.Al T := fun ad e hm => (h.lol ad e).2.2 (ht _ hm)
theorem RgIn.act_ (h : RgIn w P l s) (i : Nat) (b : Bool) : RgIn (w.setCell ⟨P.ga, i, none⟩ (.bool b)) P l { s with act := setF s.act i b } := by
  have k : Fr [P.ga] w (w.setCell ⟨P.ga, i, none⟩ (.bool b)) := (Fr.refl _ _).set (.inl (by simp)) _
  have hT : ∀ j ∈ [P.ga], j ∈ P.own := by simp [RL.own]
  refine ⟨h.blk.fr k ?_, row_fr_if h.dev k (h.offd _ hT), h.lnk.fr k (h.offl _ hT), h.on.set_ i b, h.us.fr k ?_, h.sn.fr k ?_, h.low, h.lod, h.lol⟩
  · exact fun hm => Blk.ne_ h.blk h.on (by decide) (List.mem_singleton.1 hm)
  · exact fun hm => Blk.ne_ h.us h.on (by decide) (List.mem_singleton.1 hm)
  · exact fun hm => Blk.ne_ h.sn h.on (by decide) (List.mem_singleton.1 hm)
theorem RgIn.use_ (h : RgIn w P l s) (i u : Nat) : RgIn (w.setCell ⟨P.gu, i, none⟩ (nv u)) P l (useS s i u) := by
  have k : Fr [P.gu] w (w.setCell ⟨P.gu, i, none⟩ (nv u)) := (Fr.refl _ _).set (.inl (by simp)) _
  have hT : ∀ j ∈ [P.gu], j ∈ P.own := by simp [RL.own]
  refine ⟨h.blk.fr k ?_, row_fr_if h.dev k (h.offd _ hT), h.lnk.fr k (h.offl _ hT), h.on.fr k ?_, h.us.set_ i u, h.sn.fr k ?_, h.low, h.lod, h.lol⟩
  · exact fun hm => Blk.ne_ h.blk h.us (by decide) (List.mem_singleton.1 hm)
  · exact fun hm => Blk.ne_ h.on h.us (by decide) (List.mem_singleton.1 hm)
  · exact fun hm => Blk.ne_ h.sn h.us (by decide) (List.mem_singleton.1 hm)
theorem RgIn.sin_ (h : RgIn w P l s) (i t : Nat) : RgIn (w.setCell ⟨P.gs, i, none⟩ (uv t)) P l { s with sin := setF s.sin i t } := by
  have k : Fr [P.gs] w (w.setCell ⟨P.gs, i, none⟩ (uv t)) := (Fr.refl _ _).set (.inl (by simp)) _
  have hT : ∀ j ∈ [P.gs], j ∈ P.own := by simp [RL.own]
  refine ⟨h.blk.fr k ?_, row_fr_if h.dev k (h.offd _ hT), h.lnk.fr k (h.offl _ hT), h.on.fr k ?_, h.us.fr k ?_, h.sn.set_ i t, h.low, h.lod, h.lol⟩
  · exact fun hm => Blk.ne_ h.blk h.sn (by decide) (List.mem_singleton.1 hm)
  · exact fun hm => Blk.ne_ h.on h.sn (by decide) (List.mem_singleton.1 hm)
  · exact fun hm => Blk.ne_ h.us h.sn (by decide) (List.mem_singleton.1 hm)
theorem RgIn.tick (h : RgIn w P l s) (t : Nat) : RgIn (w.setCell ⟨P.b, 5, none⟩ (uv t)) P l { s with clk := t } := by
  have k : Fr [P.b] w (w.setCell ⟨P.b, 5, none⟩ (uv t)) := (Fr.refl _ _).set (.inl (by simp)) _
  have hT : ∀ j ∈ [P.b], j ∈ P.own := by simp [RL.own]
  refine ⟨h.blk.set_ _ _, row_fr_if h.dev k (h.offd _ hT), h.lnk.fr k (h.offl _ hT), h.on.fr k ?_, h.us.fr k ?_, h.sn.fr k ?_, h.low, h.lod, h.lol⟩
  · exact fun hm => Blk.ne_ h.on h.blk (by decide) (List.mem_singleton.1 hm)
  · exact fun hm => Blk.ne_ h.us h.blk (by decide) (List.mem_singleton.1 hm)
  · exact fun hm => Blk.ne_ h.sn h.blk (by decide) (List.mem_singleton.1 hm)
/-- A device's delay as it is read. -/
theorem RgIn.delay (h : RgIn w P l s) {i : Nat} (hi : i < l.length) : ∃ ob oo, P.Ad = some ⟨ob, oo, none⟩ ∧ w.cell? ⟨ob, oo + i * 3 + 2, none⟩ = some (.int .u64 ((newRM l).dl i : Int)) := by
  obtain ⟨x, hx⟩ : ∃ x, l[i]? = some x := ⟨_, List.getElem?_eq_getElem hi⟩
  obtain ⟨ob, oo, e, hc⟩ := Row.el (f := idc) idc_len (by omega) h.dev hx
  refine ⟨ob, oo, e, ?_⟩
  have h1 := hc 2 _ rfl
  rw [show ((newRM l).dl i : Int) = (x.dl : Int) by
    show ((((l[i]?).map ID.dl).getD 0 : Nat) : Int) = _
    rw [hx]
    rfl]
  exact h1
/-- A link as it is read. -/
theorem RgIn.link (h : RgIn w P l s) {k : Nat} {p : Int × Int} (hp : (idLinks 0 l)[k]? = some p) : ∃ ob oo, P.Al = some ⟨ob, oo, none⟩ ∧ w.cell? ⟨ob, oo + k * 2, none⟩ = some (.int .i64 p.1) ∧ w.cell? ⟨ob, oo + k * 2 + 1, none⟩ = some (.int .i64 p.2) := Row.link h.lnk hp
end
end Go.Proofs.Ytbnfdpemfmeldaa

