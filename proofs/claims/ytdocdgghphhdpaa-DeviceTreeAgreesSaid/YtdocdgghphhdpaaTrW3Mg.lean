/- Walks: device.New. -/
import Derived.Test.YtdocdgghphhdpaaMgDeviceTree7
import Derived.Test.YtdocdgghphhdpaaRlW4Mg
import Derived.Test.YtdocdgghphhdpaaMgDeviceTree12
namespace Go.Proofs.Ytdocdgghphhdpaa
open Go.RowKit

def dnewM (ds : List DV) (R : Nat → RailD) (n : Nat) : Int := if dcheckM ds (n : Int) = 0 then rnewM R n else dcheckM ds (n : Int)
def tsz : TSt := ⟨fun _ => 4, rsz, 0⟩
def TrNew (T : TP) (base : Nat) : Prop := base ≤ T.b ∧ base ≤ T.gS ∧ base ≤ T.pr.b ∧ base ≤ T.pr.gB ∧ base ≤ T.pr.gC
/-- The devices' rows lie from base on. -/
def TrHi (T : TP) (ds : List DV) (base : Nat) : Prop := (∀ ad, T.A = some ad → base ≤ ad.block) ∧ (∀ x ∈ ds, ∀ q, q < 4 → ∀ g, (x.d.rf q).ownBlock = some g → base ≤ g) ∧ ∀ ad, T.pr.A = some ad → base ≤ ad.block
def DNewRet (w : World) (ds : List DV) (C : TC) (e : Ending) (w' : World) : Prop :=
  Fr [] w w' ∧ ((dnewM ds C.R C.n ≠ 0 ∧ e = .returned (.tuple #[.pointer none, .int .i64 (dnewM ds C.R C.n)])) ∨ (dnewM ds C.R C.n = 0 ∧ ∃ (T : TP) (ds' : List DV), e = .returned (.tuple #[.pointer (some ⟨T.b, 0, none⟩), .int .i64 0]) ∧ TrAt w' T ds' C tsz ∧ TrNew T w.heap.size ∧ TrHi T ds' w.heap.size))
/-- The device x with other rails' slices. -/
def PD.wrf (d : PD) (rf : Nat → Value) : PD := { d with rf := rf }
theorem PD.setR (d : PD) (rf : Nat → Value) {j : Nat} (hj : j < 4) (v : Value) : (d.wrf rf).cells.setIfInBounds (1 + j) v = (d.wrf (upd rf j v)).cells := by
  have : j = 0 ∨ j = 1 ∨ j = 2 ∨ j = 3 := by omega
  rcases this with rfl | rfl | rfl | rfl <;> rfl
def DnIn (wc : World) (g : Nat) (x : DV) (m : Nat) (i : Value) (wr : World) : Prop :=
  ∃ (j : Nat) (rf : Nat → Value), j ≤ 4 ∧ i = .int .i64 (j : Int) ∧ Blk wr g 46 (x.d.wrf rf).cells ∧ (∀ q, q < j → wr.ownsRow (g + 1) 3 1 (rf q) (x.rl q).length ((x.rl q).map (Value.int .i64))) ∧ (∀ q, j ≤ q → rf q = x.d.rf q) ∧ Fr [g] wc wr ∧ m = 4 - j
/-- k devices have been taken over. -/
structure DnAt (w2 wr : World) (ds out : List DV) (C : TC) (P : RP) (b k : Nat) (vA vS : Value) : Prop where
  blk : Blk wr b 122 #[vA, vS, .pointer (some ⟨P.b, 0, none⟩), .int .u64 0]
  ownA : wr.ownsRow b 46 13 vA k (dvcs out)
  ownS : wr.ownsRow b 3 1 vS k (List.replicate k (.int .i64 4))
  rls : ∀ x ∈ out, OwnRails wr b x.d x.rl ∧ ∀ q, q < 4 → ∀ g, (x.d.rf q).ownBlock = some g → vS.ownBlock ≠ some g
  tie : out.length = k ∧ ∀ i x, out[i]? = some x → x.d.par = C.par i ∧ x.rl = C.rl i
  rl : RlAt wr P C.R rsz
  low : RlLow P b
  fr : Fr [] w2 wr
  size : w2.heap.size ≤ b
def DnRel (w2 : World) (ds : List DV) (C : TC) (P : RP) (b m : Nat) (i : Value) (wr : World) : Prop :=
  ∃ k out vA vS, k ≤ ds.length ∧ i = .int .i64 (k : Int) ∧ DnAt w2 wr ds out C P b k vA vS ∧ m = ds.length - k
theorem dvcs_len (l : List DV) : (dvcs l).length = l.length * 13 := flat_length dvc_len l
theorem dvcs_snoc (l : List DV) (x : DV) : dvcs (l ++ [x]) = dvcs l ++ x.d.cells.toList := by simp [dvcs, dvc]
theorem keep14 {wr w2 : World} {a0 a1 a2 a3 a4 a5 a6 a7 a8 a9 a10 a11 a12 a13 : Addr} {v0 v1 v2 v3 v4 v5 v6 v7 v8 v9 v10 v11 v12 v13 : Value} {S : List Nat} (h : wr.cell? a0 = some v0 ∧ wr.cell? a1 = some v1 ∧ wr.cell? a2 = some v2 ∧ wr.cell? a3 = some v3 ∧ wr.cell? a4 = some v4 ∧ wr.cell? a5 = some v5 ∧ wr.cell? a6 = some v6 ∧ wr.cell? a7 = some v7 ∧ wr.cell? a8 = some v8 ∧ wr.cell? a9 = some v9 ∧ wr.cell? a10 = some v10 ∧ wr.cell? a11 = some v11 ∧ wr.cell? a12 = some v12 ∧ wr.cell? a13 = some v13) (k : Fr S wr w2) (n0 : a0.block ∉ S) (n1 : ∀ a ∈ [a1, a2, a3, a4, a5, a6, a7, a8, a9, a10, a11, a12, a13], a.block ∉ S) : w2.cell? a0 = some v0 ∧ w2.cell? a1 = some v1 ∧ w2.cell? a2 = some v2 ∧ w2.cell? a3 = some v3 ∧ w2.cell? a4 = some v4 ∧ w2.cell? a5 = some v5 ∧ w2.cell? a6 = some v6 ∧ w2.cell? a7 = some v7 ∧ w2.cell? a8 = some v8 ∧ w2.cell? a9 = some v9 ∧ w2.cell? a10 = some v10 ∧ w2.cell? a11 = some v11 ∧ w2.cell? a12 = some v12 ∧ w2.cell? a13 = some v13 := by
  obtain ⟨h0, h1, h2, h3, h4, h5, h6, h7, h8, h9, h10, h11, h12, h13⟩ := h
  exact ⟨k.cell h0 n0, k.cell h1 (n1 _ (by simp)), k.cell h2 (n1 _ (by simp)), k.cell h3 (n1 _ (by simp)), k.cell h4 (n1 _ (by simp)), k.cell h5 (n1 _ (by simp)), k.cell h6 (n1 _ (by simp)), k.cell h7 (n1 _ (by simp)), k.cell h8 (n1 _ (by simp)), k.cell h9 (n1 _ (by simp)), k.cell h10 (n1 _ (by simp)), k.cell h11 (n1 _ (by simp)), k.cell h12 (n1 _ (by simp)), k.cell h13 (n1 _ (by simp))⟩
theorem rep4_cells (k : Nat) : List.replicate k (Value.int .i64 4) = stCells (fun _ => 4) k := by
  apply List.ext_getElem?
  intro i
  by_cases h : i < k
  · rw [stCells_get h]
    simp [h]
  · simp [stCells, h, List.getElem?_replicate]
/-- All devices are taken over: the tree stands. -/
theorem DnAt.done {w2 wr : World} {ds out : List DV} {C : TC} {P : RP} {b : Nat} {vA vS : Value} (h : DnAt w2 wr ds out C P b C.nd vA vS) (hn : P.n = C.n) : ∃ T : TP, T.b = b ∧ T.pr = P ∧ TrAt wr T out C tsz ∧ b ≤ T.gS ∧ (∀ ad, T.A = some ad → b ≤ ad.block) ∧ ∀ x ∈ out, ∀ q, q < 4 → ∀ g, (x.d.rf q).ownBlock = some g → b ≤ g := by
  obtain ⟨A, cA, rfl, -, hrA, hoA⟩ := own_slice h.ownA
  obtain ⟨S, cS, rfl, -, -, hoS⟩ := own_slice h.ownS
  obtain ⟨gS, hgS, hS1, hS2⟩ : ∃ gS, b ≤ gS ∧ (0 < C.nd → S = some ⟨gS, 0, none⟩ ∧ OwnR wr gS 3 (List.replicate C.nd (.int .i64 4))) ∧ (gS = b ∨ (Value.slice S C.nd cS).ownBlock = some gS) := by
    by_cases h0 : 0 < C.nd
    · obtain ⟨g, cp, e, -, hb, hr⟩ := own_cut h.ownS h0
      injection e with e1 e2 e3
      subst e1 e3
      exact ⟨g, hb, fun _ => ⟨rfl, hr⟩, .inr rfl⟩
    · exact ⟨b, Nat.le_refl _, fun h => absurd h h0, .inl rfl⟩
  have hlt : gS < wr.heap.size := by
    rcases hS2 with rfl | h2
    · exact h.blk.lt
    · exact (own_block h.ownS h2).2.1
  have hlow := h.low
  obtain ⟨l1, l2, l3, l4⟩ := h.low
  have hAb : ∀ ad, A = some ad → b ≤ ad.block ∧ ad.block < wr.heap.size ∧ ad.block ≠ b ∧ ad.block ≠ gS := fun ad e => by
    obtain ⟨h1, h2⟩ := hoA ad e
    have hb : (Value.slice A C.nd cA).ownBlock = some ad.block := by rw [e]; rfl
    obtain ⟨o1, o2, cs, o3⟩ := own_block h.ownA hb
    refine ⟨o1, o2, Blk.ne_ o3 h.blk (by decide), ?_⟩
    rcases hS2 with rfl | h2
    · exact Blk.ne_ o3 h.blk (by decide)
    · obtain ⟨-, -, cs2, o4⟩ := own_block h.ownS h2
      exact Blk.ne_ o3 o4 (by decide)
  have hRb : ∀ x ∈ out, ∀ q, q < 4 → ∀ g, (x.d.rf q).ownBlock = some g → b ≤ g ∧ g < wr.heap.size ∧ g ≠ b ∧ g ≠ gS := fun x hx q hq g hg => by
    obtain ⟨o1, o2, cs, o3⟩ := own_block ((h.rls x hx).1 q hq) hg
    have hgb : g ≠ b := Blk.ne_ o3 h.blk (by decide)
    refine ⟨o1, o2, hgb, ?_⟩
    rcases hS2 with rfl | h2
    · exact hgb
    · exact fun e => (h.rls x hx).2 q hq g hg (by rw [h2, e])
  refine ⟨⟨b, A, cA, S, gS, cS, P⟩, rfl, rfl, ?_, hgS, fun ad e => (hAb ad e).1, fun x hx q hq g hg => (hRb x hx q hq g hg).1⟩
  exact {
    blk := h.blk
    dv := ⟨hrA, fun x hx => OwnRails.at_ (h.rls x hx).1⟩
    len := h.tie.1
    tie := h.tie.2
    sS := fun h0 => ⟨(hS1 h0).1, by rw [show tsz.st = fun _ => 4 from rfl, ← rep4_cells]; exact (hS1 h0).2⟩
    rl := h.rl
    pn := hn
    offA := fun ad e hm => by
      have := hAb ad e
      simp only [TP.wr, List.mem_cons, List.not_mem_nil, or_false] at hm
      omega
    offR := fun x hx q hq g hg hm => by
      have := hRb x hx q hq g hg
      simp only [TP.wr, List.mem_cons, List.not_mem_nil, or_false] at hm
      omega
    sepS := by refine ⟨?_, ?_, ?_⟩ <;> dsimp only <;> omega
    sepA := fun ad e => by have := l4 ad e; dsimp only; omega
    low := ⟨h.blk.lt, hlt, h.rl.lowAt, fun ad e => (hAb ad e).2.1, fun x hx q hq g hg => (hRb x hx q hq g hg).2.1⟩ }
/-- One device more. -/
theorem DnAt.step {w2 wr wc wd w6 w7 w8 w9 : World} {ds out : List DV} {C : TC} {P : RP} {b k g : Nat} {vA vS vA' vS' : Value} {D : DV} (h : DnAt w2 wr ds out C P b k vA vS) (hg : g = wr.heap.size) (f1 : Fr [] wr wc) (f2 : Fr [g] wc wd)
    (hor : ∀ q, q < 4 → wd.ownsRow (g + 1) 3 1 (D.d.rf q) (D.rl q).length ((D.rl q).map (Value.int .i64)))
    (f3 : Fr [] wd w6) (hA : w7.ownsRow b 46 13 vA' (k + 1) (dvcs out ++ D.d.cells.toList)) (f4 : Fr vA.ownBlock.toList w6 w7)
    (f5 : Fr [] (w7.setCell ⟨b, 0, none⟩ vA') w8) (hS : w9.ownsRow b 3 1 vS' (k + 1) (List.replicate k (.int .i64 4) ++ [.int .i64 4])) (f6 : Fr vS.ownBlock.toList w8 w9)
    (hat : vS'.ownBlock = vS.ownBlock ∨ ∃ z, vS'.ownBlock = some z ∧ wd.heap.size ≤ z) (hpar : D.d.par = C.par k) (hrl : D.rl = C.rl k) :
    DnAt w2 (w9.setCell ⟨b, 1, none⟩ vS') ds (out ++ [D]) C P b (k + 1) vA' vS' := by
  have hbk : b < g := by rw [hg]; exact h.blk.lt
  have gA : ∀ y ∈ vA.ownBlock.toList, b ≤ y ∧ y < g ∧ ∃ cs, Blk wr y 46 cs := fun y hy => by rw [hg]; exact own_block h.ownA (by simpa using hy)
  have gS : ∀ y ∈ vS.ownBlock.toList, b ≤ y ∧ y < g ∧ ∃ cs, Blk wr y 3 cs := fun y hy => by rw [hg]; exact own_block h.ownS (by simpa using hy)
  have nA : ∀ {y t cs}, Blk wr y t cs → t ≠ 46 → y ∉ vA.ownBlock.toList := fun hb hne hm => by
    obtain ⟨-, -, cs, h2⟩ := gA _ hm
    exact Blk.ne_ h2 hb (Ne.symm hne) rfl
  have nS : ∀ {y t cs}, Blk wr y t cs → t ≠ 3 → y ∉ vS.ownBlock.toList := fun hb hne hm => by
    obtain ⟨-, -, cs, h2⟩ := gS _ hm
    exact Blk.ne_ h2 hb (Ne.symm hne) rfl
  have f12 : Fr [g] wr wd := (f1.mono (fun _ _ h => by cases h)).trans f2
  have hb6 : Blk w6 b 122 #[vA, vS, .pointer (some ⟨P.b, 0, none⟩), .int .u64 0] := (h.blk.fr f12 (by simp; omega)).fr f3 (by simp)
  have hb7 := hb6.fr f4 (nA h.blk (by decide))
  have hb8 := (hb7.set_ 0 vA').fr f5 (by simp)
  have hb9 := hb8.fr f6 (nS h.blk (by decide))
  have hb10 := hb9.set_ 1 vS'
  have fb7 : Fr [b] w7 (w7.setCell ⟨b, 0, none⟩ vA') := (Fr.refl _ _).set (.inl (by simp)) _
  have fb9 : Fr [b] w9 (w9.setCell ⟨b, 1, none⟩ vS') := (Fr.refl _ _).set (.inl (by simp)) _
  have f78 : Fr [b] w7 w8 := fb7.trans (f5.mono (fun _ _ h => by cases h))
  have keep : ∀ {base n v xs}, wd.ownsRow base 3 1 v n xs → (∀ y, v.ownBlock = some y → y ≠ b ∧ y ∉ vA.ownBlock.toList ∧ y ∉ vS.ownBlock.toList) → (w9.setCell ⟨b, 1, none⟩ vS').ownsRow base 3 1 v n xs := by
    intro base n v xs ho hv
    refine own_fr (own_fr (own_fr (own_fr (own_fr ho f3 (fun _ _ => by simp)) f4 (fun z hz => (hv z hz).2.1)) f78 (fun z hz => by have := (hv z hz).1; simpa using this)) f6 (fun z hz => (hv z hz).2.2)) fb9 (fun z hz => by have := (hv z hz).1; simpa using this)
  have fall : Fr (g :: b :: (vA.ownBlock.toList ++ vS.ownBlock.toList)) wr (w9.setCell ⟨b, 1, none⟩ vS') := by
    refine (f12.mono ?_).trans ((f3.mono ?_).trans ((f4.mono ?_).trans ((f78.mono ?_).trans ((f6.mono ?_).trans (fb9.mono ?_)))))
    all_goals intro y _ hy; simp at hy ⊢
    · exact .inl hy
    · exact .inr (.inr (.inl hy))
    · exact .inr (.inl hy)
    · exact .inr (.inr (.inr hy))
    · exact .inr (.inl hy)
  have hall : ∀ y ∈ (g :: b :: (vA.ownBlock.toList ++ vS.ownBlock.toList)), b ≤ y := fun y hy => by
    rcases List.mem_cons.1 hy with rfl | hy
    · omega
    rcases List.mem_cons.1 hy with rfl | hy
    · exact Nat.le_refl _
    rcases List.mem_append.1 hy with hy | hy
    · exact (gA y hy).1
    · exact (gS y hy).1
  refine ⟨hb10, ?_, ?_, ?_, ?_, h.rl.frGe fall h.low hall, h.low, h.fr.step fall (fun y hy => .inr (Nat.le_trans h.size (hall y hy))), h.size⟩
  · rw [dvcs_snoc]
    refine own_fr (own_fr (own_fr hA f78 (fun z hz => ?_)) f6 (fun z hz => ?_)) fb9 (fun z hz => ?_)
    · obtain ⟨-, -, cs, h2⟩ := own_block hA hz
      have := Blk.ne_ h2 hb7 (by decide)
      simpa using this
    · intro hm
      obtain ⟨-, o2, cs, h2⟩ := own_block hA hz
      obtain ⟨g1, g2, cs2, h3⟩ := gS z hm
      have h4 : Blk w7 z 3 cs2 := ((h3.fr f12 (by simp; omega)).fr f3 (by simp)).fr f4 (nA h3 (by decide))
      exact Blk.ne_ h2 h4 (by decide) rfl
    · obtain ⟨-, -, cs, h2⟩ := own_block hA hz
      have := Blk.ne_ h2 hb7 (by decide)
      simpa using this
  · rw [show List.replicate (k + 1) (Value.int .i64 4) = List.replicate k (.int .i64 4) ++ [.int .i64 4] from List.replicate_succ']
    refine own_fr hS fb9 (fun z hz => ?_)
    obtain ⟨-, -, cs, h2⟩ := own_block hS hz
    have := Blk.ne_ h2 hb9 (by decide)
    simpa using this
  · intro x hx
    rcases List.mem_append.1 hx with hx | hx
    · obtain ⟨r1, r2⟩ := h.rls x hx
      refine ⟨fun q hq => keep (own_fr (r1 q hq) f12 (fun z hz => ?_)) (fun y hy => ?_), fun q hq y hy e => ?_⟩
      · have := (own_block (r1 q hq) hz).2.1
        simp; omega
      · obtain ⟨-, o2, cs, h2⟩ := own_block (r1 q hq) hy
        refine ⟨Blk.ne_ h2 h.blk (by decide), nA h2 (by decide), fun hm => r2 q hq y hy (by simpa using hm)⟩
      · rcases hat with h1 | ⟨z, h1, h2⟩
        · exact r2 q hq y hy (by rw [← h1]; exact e)
        · rw [h1] at e
          injection e with e
          have h3 := (own_block (r1 q hq) hy).2.1
          have h4 := f12.size
          omega
    · rw [List.mem_singleton.1 hx]
      refine ⟨fun q hq => own_base (keep (hor q hq) (fun y hy => ?_)) (by omega), fun q hq y hy e => ?_⟩
      · have o1 := (own_block (hor q hq) hy).1
        refine ⟨by omega, fun hm => ?_, fun hm => ?_⟩
        · have := (gA y hm).2.1; omega
        · have := (gS y hm).2.1; omega
      · obtain ⟨o1, o2, -⟩ := own_block (hor q hq) hy
        rcases hat with h1 | ⟨z, h1, h2⟩
        · rw [h1] at e
          have := (gS y (by simpa using e)).2.1
          omega
        · rw [h1] at e
          injection e with e
          omega
  · refine ⟨by rw [List.length_append, h.tie.1]; rfl, fun i x hx => ?_⟩
    by_cases hi : i < out.length
    · rw [List.getElem?_append_left hi] at hx
      exact h.tie.2 i x hx
    · rw [List.getElem?_append_right (by omega)] at hx
      have hi2 : i - out.length = 0 := by
        have := (List.getElem?_eq_some_iff.1 hx).1
        simp at this
        omega
      rw [hi2] at hx
      injection hx with hx
      subst hx
      have : i = k := by rw [← h.tie.1]; omega
      subst this
      exact ⟨hpar, hrl⟩
set_option maxHeartbeats 8000000 in
set_option maxRecDepth 100000 in
theorem dnew_any (A : Option Addr) (cp : Nat) (ds : List DV) (A2 : Option Addr) (cp2 : Nat) (C : TC) (w : World) (hr : DvsAt w A ds) (hn : ∀ x ∈ ds, ∀ k, (x.rl k).length ≤ 4096) (hl : ds.length ≤ maxLen) (hnil : ∀ x ∈ ds, ∀ q, q < 4 → ∀ n c, x.d.rf q = .slice none n c → c = 0)
    (hnd : ds.length = C.nd) (htie : ∀ i x, ds[i]? = some x → x.d.par = C.par i ∧ x.rl = C.rl i) (hr2 : Row w A2 (rlcs C.R C.n)) (hA2 : A2 = none → cp2 = 0 ∧ C.n = 0) (hn2 : C.n ≤ maxLen) :
    Calls Try.prog 18 #[.slice A ds.length cp, .slice A2 C.n cp2] w (DNewRet w ds C) := by
  obtain ⟨i0, hi0, hz0, hz1, hz2⟩ := info_parts pd_info
  have HIP := hide (And.intro hi0 (And.intro hz0 (And.intro hz1 hz2)))
  obtain ⟨i1, hj0, hy0, hy1, hy2⟩ := info_parts int_info1
  have HII := hide (And.intro hj0 (And.intro hy0 (And.intro hy1 hy2)))
  have HR := hide hr
  have HN := hide hn
  have HNIL := hide hnil
  have HTIE := hide htie
  have HR2 := hide hr2
  have HA2 := hide hA2
  have HL := hide hl
  have HN2 := hide hn2
  have HND := hide hnd
  have hl64 : dcheckM ds (C.n : Int) = 0 → ds.length ≤ 64 := fun h => by
    unfold dcheckM at h
    split at h
    · cases h
    · omega
  have HL64 := hide hl64
  clear hnd hr hn hnil htie hr2 hA2 hi0 hz0 hz1 hz2 hj0 hy0 hy1 hy2 hl hn2 hl64
  by_cases hc0 : dcheckM ds (C.n : Int) = 0
  case neg =>
    have HM : Hid (dnewM ds C.R C.n = dcheckM ds (C.n : Int)) := hide (by rw [dnewM, if_neg hc0])
    have b1 : (dcheckM ds (C.n : Int) != 0) = true := by simp [hc0]
    have HC0 := hide hc0
    clear hc0
    go_enter Try.func18, Try.ntmps18
    go_wp2_with fail
    refine (check27_any A cp ds (C.n : Int) w HR.out HN.out HL.out).mono ?_
    rintro e w1 ⟨rfl, hf1⟩
    generalize dcheckM ds (C.n : Int) = c at b1 HM HC0 ⊢
    go_wp2
    go_ret2
    exact ⟨hf1, .inl ⟨by rw [HM.out]; exact HC0.out, by rw [HM.out]; rfl⟩⟩
  have HM0 : Hid (dnewM ds C.R C.n = rnewM C.R C.n) := hide (by rw [dnewM, if_pos hc0])
  have hl64 := HL64.out hc0
  have HC0 := hide hc0
  clear hc0 HL64
  go_enter Try.func18, Try.ntmps18
  go_wp2_with fail
  refine (check27_any A cp ds (C.n : Int) w HR.out HN.out HL.out).mono ?_
  rintro e w1 ⟨rfl, hf1⟩
  rw [HC0.out]
  go_wp2_with fail
  refine (rnew_any A2 cp2 C.n C.R w1 (HR2.out.fr0 hf1) HA2.out HN2.out).mono ?_
  rintro e w2 ⟨hf2, ⟨hne, rfl⟩ | ⟨he, P, rfl, hPn, hrl, hnew⟩⟩
  · have HNE := hide hne
    have b1 : (rnewM C.R C.n != 0) = true := by simp [hne]
    have hf02 := hf1.call hf2
    clear hne hf1 hf2
    generalize rnewM C.R C.n = c at b1 HM0 HNE ⊢
    go_wp2
    go_ret2
    exact ⟨hf02, .inl ⟨by rw [HM0.out]; exact HNE.out, by rw [HM0.out]; rfl⟩⟩
  · have HM : Hid (dnewM ds C.R C.n = 0) := hide (by rw [HM0.out, he])
    have hf02 := hf1.call hf2
    have HPN := hide hPn
    have hsz1 := hf1.size
    have HNW : Hid (w.heap.size ≤ P.b ∧ w.heap.size ≤ P.gB ∧ w.heap.size ≤ P.gC ∧ ∀ ad, P.A = some ad → w.heap.size ≤ ad.block) := hide ⟨by have := hnew.1; omega, by have := hnew.2.1; omega, by have := hnew.2.2.1; omega, fun ad e => by have := hnew.2.2.2 ad e; omega⟩
    have HLW := hide hrl.lowAt
    have HRL := hide hrl
    clear he hf1 hf2 hPn hrl hnew HM0 hsz1
    go_upto_region 9 with (fail)
    have hb0 := Blk.new w2 122 #[.slice none 0 0, .slice none 0 0, .pointer (some ⟨P.b, 0, none⟩), .int .u64 0]
    have hfb : Fr [] w2 (w2.alloc (.cells #[.slice none 0 0, .slice none 0 0, .pointer (some ⟨P.b, 0, none⟩), .int .u64 0] 122)) := (Fr.refl _ _).alloc _
    have HS0 : Hid (DnAt w2 (w2.alloc (.cells #[.slice none 0 0, .slice none 0 0, .pointer (some ⟨P.b, 0, none⟩), .int .u64 0] 122)) ds [] C P w2.heap.size 0 (.slice none 0 0) (.slice none 0 0)) := hide ⟨hb0, own_nil _ _ _ _, own_nil _ _ _ _, fun x hx => (by cases hx), ⟨rfl, fun i x hx => by simp at hx⟩, HRL.out.fr0 hfb, HLW.out, hfb, Nat.le_refl _⟩
    have hsz2 := hf02.size
    clear hb0 hfb HRL HLW
    generalize w2.alloc (.cells #[.slice none 0 0, .slice none 0 0, .pointer (some ⟨P.b, 0, none⟩), .int .u64 0] 122) = w3 at HS0 ⊢
    generalize hbe : w2.heap.size = b at HS0 hsz2 ⊢
    have HBE := hide hbe
    clear hbe
    go_loopg [33] ds.length (fun m i wr => DnRel w2 ds C P b m i wr)
    case atStart => exact ⟨0, [], _, _, by omega, rfl, HS0.out, rfl⟩
    case round =>
      obtain ⟨k, out, vA, vS, hk, rfl, hat, hmm⟩ := hrel
      have HMM := hide hmm
      have HAT := hide hat
      clear hmm HS0
      by_cases hkn : k < ds.length
      · obtain ⟨x, hx⟩ : ∃ x, ds[k]? = some x := ⟨_, List.getElem?_eq_getElem hkn⟩
        have hki : (k : Int) < (ds.length : Int) := by omega
        have hf0r := hf02.call hat.fr
        obtain ⟨ob, oo, rfl, c0, c1, c2, c3, c4, c5, c6, c7, c8, c9, c10, c11, c12⟩ := (HR.out.fr0 hf0r).el hx
        have hrax := HR.out.2 x (List.mem_of_getElem? hx)
        have HRX := hide hrax
        obtain ⟨A0, q0, e0, -⟩ := hrax 0 (by omega)
        obtain ⟨A1, q1, e1, -⟩ := hrax 1 (by omega)
        obtain ⟨A3, q2, e2, -⟩ := hrax 2 (by omega)
        obtain ⟨A4, q3, e3, -⟩ := hrax 3 (by omega)
        have HCE : Hid (x.d.cells = #[.int .i64 x.d.par, .slice A0 (x.rl 0).length q0, .slice A1 (x.rl 1).length q1, .slice A3 (x.rl 2).length q2, .slice A4 (x.rl 3).length q3, .int .i64 (x.d.df 0), .int .i64 (x.d.df 1), .int .i64 (x.d.df 2), .int .i64 (x.d.df 3), .int .i64 (x.d.df 4), .int .i64 (x.d.df 5), .int .i64 x.d.wd, .int .i64 x.d.ws]) := hide (by simp only [PD.cells, e0, e1, e2, e3])
        rw [e0] at c1
        rw [e1] at c2
        rw [e2] at c3
        rw [e3] at c4
        have HXM := hide (List.mem_of_getElem? hx)
        have HTX := hide (HTIE.out k x hx)
        clear hx hrax e0 e1 e2 e3 hat
        go_upto_region 11 with (fail)
        obtain ⟨wo, hwo⟩ : ∃ wo, wo = wr := ⟨_, rfl⟩
        subst hwo
        have f1 : Fr [] wo (wo.alloc (.cells #[.int .i64 x.d.par, .slice A0 (x.rl 0).length q0, .slice A1 (x.rl 1).length q1, .slice A3 (x.rl 2).length q2, .slice A4 (x.rl 3).length q3, .int .i64 (x.d.df 0), .int .i64 (x.d.df 1), .int .i64 (x.d.df 2), .int .i64 (x.d.df 3), .int .i64 (x.d.df 4), .int .i64 (x.d.df 5), .int .i64 x.d.wd, .int .i64 x.d.ws] 46)) := (Fr.refl _ _).alloc _
        have HBX : Hid (Blk (wo.alloc (.cells #[.int .i64 x.d.par, .slice A0 (x.rl 0).length q0, .slice A1 (x.rl 1).length q1, .slice A3 (x.rl 2).length q2, .slice A4 (x.rl 3).length q3, .int .i64 (x.d.df 0), .int .i64 (x.d.df 1), .int .i64 (x.d.df 2), .int .i64 (x.d.df 3), .int .i64 (x.d.df 4), .int .i64 (x.d.df 5), .int .i64 x.d.wd, .int .i64 x.d.ws] 46)) wo.heap.size 46 (x.d.wrf x.d.rf).cells) := hide (by
          rw [show x.d.wrf x.d.rf = x.d from rfl, HCE.out]
          exact Blk.new wo _ _)
        have hszb : b < wo.heap.size := HAT.out.blk.lt
        clear c0 c1 c2 c3 c4 c5 c6 c7 c8 c9 c10 c11 c12 HCE
        generalize wo.alloc (.cells #[.int .i64 x.d.par, .slice A0 (x.rl 0).length q0, .slice A1 (x.rl 1).length q1, .slice A3 (x.rl 2).length q2, .slice A4 (x.rl 3).length q3, .int .i64 (x.d.df 0), .int .i64 (x.d.df 1), .int .i64 (x.d.df 2), .int .i64 (x.d.df 3), .int .i64 (x.d.df 4), .int .i64 (x.d.df 5), .int .i64 x.d.wd, .int .i64 x.d.ws] 46) = wc at f1 HBX ⊢
        generalize hge : wo.heap.size = g at HBX hszb ⊢
        have HGE := hide hge
        have hgc : g < wc.heap.size := HBX.out.lt
        clear hge
        go_wp2
        go_loopg [37] 4 (fun m i wr => DnIn wc g x m i wr)
        case atStart => exact ⟨0, x.d.rf, by omega, rfl, HBX.out, fun q hq => by omega, fun q _ => rfl, Fr.refl _ _, rfl⟩
        case round =>
          obtain ⟨j, rf, hj, rfl, hblk, hrow, hrest, f2, hmm⟩ := hrel
          have HM2 := hide hmm
          have HBK := hide hblk
          have HROW := hide hrow
          have HREST := hide hrest
          clear hmm hblk hrow hrest HBX
          by_cases hj4 : j < 4
          · obtain ⟨A', cp', er, hrow'⟩ := HRX.out j hj4
            have hfr0 : Fr [] w wr := (hf0r.call f1).step f2 (fun i hi => .inr (by rw [List.mem_singleton.1 hi]; have := hf0r.size; have := HGE.out; omega))
            have cj : wr.cell? ⟨g, 1 + j, none⟩ = some (.slice A' (x.rl j).length cp') := (HBK.out.cell (1 + j)).trans ((PD.rail (x.d.wrf rf) hj4).trans (by rw [← er, ← HREST.out j (Nat.le_refl _)]; rfl))
            have fj : wr.frozen? ⟨g, 1 + j, none⟩ = false := HBK.out.frozen (1 + j)
            have HRR := hide (hrow'.fr0 hfr0)
            have HA' : Hid (A' = none → cp' = 0) := hide (fun e => HNIL.out x HXM.out j hj4 (x.rl j).length cp' (by rw [er, e]))
            have hji : (j : Int) < 4 := by omega
            clear hrow' er
            go_wp2_with fail
            refine (clone_n A' cp' (x.rl j).length ((x.rl j).map (Value.int .i64)) wr (by simp) HRR.out (fun u hu => by obtain ⟨y, _, rfl⟩ := List.mem_map.1 hu; rfl) (HN.out x HXM.out j) HA'.out).mono ?_
            rintro e w4 ⟨v, rfl, hov, f3⟩
            obtain ⟨Av, cv, rfl, -, -, -⟩ := own_slice hov
            have HBK3 := hide (HBK.out.fr f3 (by simp))
            have hgz := HBK.out.lt
            have cj2 := f3.cell cj (by simp)
            have fj2 : w4.frozen? ⟨g, 1 + j, none⟩ = false := HBK3.out.frozen (1 + j)
            have HOV := hide hov
            clear hov cj fj
            go_wp2
            go_roundg (4 - (j + 1))
            case measure => rw [HM2.out]; omega
            case rel =>
              refine ⟨j + 1, upd rf j (.slice Av (x.rl j).length cv), by omega, by go_num, ?_, ?_, ?_, ?_, rfl⟩
              · rw [← PD.setR x.d rf hj4]
                exact HBK3.out.set_ _ _
              · intro q hq
                by_cases e : q = j
                · subst e
                  rw [upd, if_pos rfl]
                  refine own_fr (own_base HOV.out (by omega)) ((Fr.refl [g] _).set (.inl (by simp)) _) (fun y hy hm => ?_)
                  have := (own_block HOV.out hy).1
                  have := List.mem_singleton.1 hm
                  omega
                · rw [upd, if_neg e]
                  refine own_fr (own_fr (HROW.out q (by omega)) f3 (fun _ _ => by simp)) ((Fr.refl [g] _).set (.inl (by simp)) _) (fun y hy hm => ?_)
                  have := (own_block (HROW.out q (by omega)) hy).1
                  have := List.mem_singleton.1 hm
                  omega
              · intro q hq
                rw [upd, if_neg (by omega)]
                exact HREST.out q (by omega)
              · exact (f2.call f3).set (.inl (by simp)) _
          · have hje : j = 4 := by omega
            subst hje
            have hji : ¬ ((4 : Nat) : Int) < 4 := by omega
            obtain ⟨B0, p0, r0, -⟩ := own_slice (HROW.out 0 (by omega))
            obtain ⟨B1, p1, r1, -⟩ := own_slice (HROW.out 1 (by omega))
            obtain ⟨B2, p2, r2, -⟩ := own_slice (HROW.out 2 (by omega))
            obtain ⟨B3, p3, r3, -⟩ := own_slice (HROW.out 3 (by omega))
            have HCE : Hid ((x.d.wrf rf).cells = #[.int .i64 x.d.par, .slice B0 (x.rl 0).length p0, .slice B1 (x.rl 1).length p1, .slice B2 (x.rl 2).length p2, .slice B3 (x.rl 3).length p3, .int .i64 (x.d.df 0), .int .i64 (x.d.df 1), .int .i64 (x.d.df 2), .int .i64 (x.d.df 3), .int .i64 (x.d.df 4), .int .i64 (x.d.df 5), .int .i64 x.d.wd, .int .i64 x.d.ws]) := hide (by simp only [PD.cells, PD.wrf, r0, r1, r2, r3])
            have HB4 := HBK.out
            rw [HCE.out] at HB4
            have c0 := HB4.cell 0
            have c1 := HB4.cell 1
            have c2 := HB4.cell 2
            have c3 := HB4.cell 3
            have c4 := HB4.cell 4
            have c5 := HB4.cell 5
            have c6 := HB4.cell 6
            have c7 := HB4.cell 7
            have c8 := HB4.cell 8
            have c9 := HB4.cell 9
            have c10 := HB4.cell 10
            have c11 := HB4.cell 11
            have c12 := HB4.cell 12
            simp only [List.getElem?_toArray, List.getElem?_cons_zero, List.getElem?_cons_succ] at c0 c1 c2 c3 c4 c5 c6 c7 c8 c9 c10 c11 c12
            have f12 : Fr [g] wo wr := (f1.mono (fun _ _ h => by cases h)).trans f2
            obtain ⟨A9, n9, rfl, -, -, -⟩ := own_slice HAT.out.ownA
            obtain ⟨S9, m9, rfl, -, -, -⟩ := own_slice HAT.out.ownS
            have hgA : ∀ y, (Value.slice A9 k n9).ownBlock = some y → y < g := fun y hy => by rw [← HGE.out]; exact (own_block HAT.out.ownA hy).2.1
            have hgS : ∀ y, (Value.slice S9 k m9).ownBlock = some y → y < g := fun y hy => by rw [← HGE.out]; exact (own_block HAT.out.ownS hy).2.1
            have HOA := hide (own_fr HAT.out.ownA f12 (fun y hy hm => by have := hgA y hy; have := List.mem_singleton.1 hm; omega))
            have HOS := hide (own_fr HAT.out.ownS f12 (fun y hy hm => by have := hgS y hy; have := List.mem_singleton.1 hm; omega))
            have HBT := hide (HAT.out.blk.fr f12 (by simp; omega))
            have t0 : wr.cell? ⟨b, 0, none⟩ = some (.slice A9 k n9) := HBT.out.cell 0
            have HGA := hide hgA
            have HGS := hide hgS
            have hbw : b ≤ wr.heap.size := by have := f12.size; have := HGE.out; omega
            have HF12 := hide f12
            clear r0 r1 r2 r3 HB4 hgA hgS f12
            go_wp2
            refine wp_region_T (fun w' => w'.cell? ⟨b, 0, none⟩ = some (.slice A9 k n9) ∧ w'.cell? ⟨g, 0, none⟩ = some (.int .i64 x.d.par) ∧ w'.cell? ⟨g, 1, none⟩ = some (.slice B0 (x.rl 0).length p0) ∧ w'.cell? ⟨g, 2, none⟩ = some (.slice B1 (x.rl 1).length p1) ∧ w'.cell? ⟨g, 3, none⟩ = some (.slice B2 (x.rl 2).length p2) ∧ w'.cell? ⟨g, 4, none⟩ = some (.slice B3 (x.rl 3).length p3) ∧ w'.cell? ⟨g, 5, none⟩ = some (.int .i64 (x.d.df 0)) ∧ w'.cell? ⟨g, 6, none⟩ = some (.int .i64 (x.d.df 1)) ∧ w'.cell? ⟨g, 7, none⟩ = some (.int .i64 (x.d.df 2)) ∧ w'.cell? ⟨g, 8, none⟩ = some (.int .i64 (x.d.df 3)) ∧ w'.cell? ⟨g, 9, none⟩ = some (.int .i64 (x.d.df 4)) ∧ w'.cell? ⟨g, 10, none⟩ = some (.int .i64 (x.d.df 5)) ∧ w'.cell? ⟨g, 11, none⟩ = some (.int .i64 x.d.wd) ∧ w'.cell? ⟨g, 12, none⟩ = some (.int .i64 x.d.ws)) 10 (by kernel_rfl) ?_
            have hS : (fun w' : World => w'.cell? ⟨b, 0, none⟩ = some (.slice A9 k n9) ∧ w'.cell? ⟨g, 0, none⟩ = some (.int .i64 x.d.par) ∧ w'.cell? ⟨g, 1, none⟩ = some (.slice B0 (x.rl 0).length p0) ∧ w'.cell? ⟨g, 2, none⟩ = some (.slice B1 (x.rl 1).length p1) ∧ w'.cell? ⟨g, 3, none⟩ = some (.slice B2 (x.rl 2).length p2) ∧ w'.cell? ⟨g, 4, none⟩ = some (.slice B3 (x.rl 3).length p3) ∧ w'.cell? ⟨g, 5, none⟩ = some (.int .i64 (x.d.df 0)) ∧ w'.cell? ⟨g, 6, none⟩ = some (.int .i64 (x.d.df 1)) ∧ w'.cell? ⟨g, 7, none⟩ = some (.int .i64 (x.d.df 2)) ∧ w'.cell? ⟨g, 8, none⟩ = some (.int .i64 (x.d.df 3)) ∧ w'.cell? ⟨g, 9, none⟩ = some (.int .i64 (x.d.df 4)) ∧ w'.cell? ⟨g, 10, none⟩ = some (.int .i64 (x.d.df 5)) ∧ w'.cell? ⟨g, 11, none⟩ = some (.int .i64 x.d.wd) ∧ w'.cell? ⟨g, 12, none⟩ = some (.int .i64 x.d.ws)) { wr with drawn := wr.drawn + 1 } := ⟨t0, c0, c1, c2, c3, c4, c5, c6, c7, c8, c9, c10, c11, c12⟩
            refine wpAnyT_take (i := 0) (v := ?v0) rfl (by kernel_rfl) (by kernel_rfl) (fun _ _ _ h => h) (Or.inl ⟨by rfl, ?hy0⟩) hS ?rest0
            case hy0 =>
              intro wz hSw
              obtain ⟨s0, s1, s2, s3, s4, s5, s6, s7, s8, s9, s10, s11, s12, s13⟩ := hSw
              go_simp
              try rfl
            try simp only [Act.put, List.setIfInBounds_toArray, List.set_cons_zero, List.set_cons_succ, List.getElem_toArray, List.getElem_cons_zero]
            refine wpAnyT_take (i := 1) (v := ?v1) rfl (by kernel_rfl) (by kernel_rfl) (fun _ _ _ h => h) (Or.inl ⟨by rfl, ?hy1⟩) hS ?rest1
            case hy1 =>
              intro wz hSw
              obtain ⟨s0, s1, s2, s3, s4, s5, s6, s7, s8, s9, s10, s11, s12, s13⟩ := hSw
              go_simp
              try rfl
            try simp only [Act.put, List.setIfInBounds_toArray, List.set_cons_zero, List.set_cons_succ, List.getElem_toArray, List.getElem_cons_zero, List.getElem_cons_succ]
            refine wpAnyT_take (i := 2) (v := ?v2) rfl (by kernel_rfl) (by kernel_rfl) (fun _ _ _ h => h) (Or.inl ⟨by rfl, ?hy2⟩) hS ?rest2
            case hy2 =>
              intro wz hSw
              obtain ⟨s0, s1, s2, s3, s4, s5, s6, s7, s8, s9, s10, s11, s12, s13⟩ := hSw
              go_simp
              try rfl
            try simp only [Act.put, List.setIfInBounds_toArray, List.set_cons_zero, List.set_cons_succ, List.getElem_toArray, List.getElem_cons_zero, List.getElem_cons_succ]
            refine wpAnyT_take (i := 3) (v := ?v3) rfl (by kernel_rfl) (by kernel_rfl) (fun _ _ _ h => h) (Or.inl ⟨by rfl, ?hy3⟩) hS ?rest3
            case hy3 =>
              intro wz hSw
              obtain ⟨s0, s1, s2, s3, s4, s5, s6, s7, s8, s9, s10, s11, s12, s13⟩ := hSw
              go_simp
              try rfl
            try simp only [Act.put, List.setIfInBounds_toArray, List.set_cons_zero, List.set_cons_succ, List.getElem_toArray, List.getElem_cons_zero, List.getElem_cons_succ]
            refine wpAnyT_take (i := 4) (v := ?v4) rfl (by kernel_rfl) (by kernel_rfl) (fun _ _ _ h => h) (Or.inl ⟨by rfl, ?hy4⟩) hS ?rest4
            case hy4 =>
              intro wz hSw
              obtain ⟨s0, s1, s2, s3, s4, s5, s6, s7, s8, s9, s10, s11, s12, s13⟩ := hSw
              go_simp
              try rfl
            try simp only [Act.put, List.setIfInBounds_toArray, List.set_cons_zero, List.set_cons_succ, List.getElem_toArray, List.getElem_cons_zero, List.getElem_cons_succ]
            refine wpAnyT_take (i := 5) (v := ?v5) rfl (by kernel_rfl) (by kernel_rfl) (fun _ _ _ h => h) (Or.inl ⟨by rfl, ?hy5⟩) hS ?rest5
            case hy5 =>
              intro wz hSw
              obtain ⟨s0, s1, s2, s3, s4, s5, s6, s7, s8, s9, s10, s11, s12, s13⟩ := hSw
              go_simp
              try rfl
            try simp only [Act.put, List.setIfInBounds_toArray, List.set_cons_zero, List.set_cons_succ, List.getElem_toArray, List.getElem_cons_zero, List.getElem_cons_succ]
            clear hS
            have hf67 : Fr [] wr ((wr.alloc (.cells #[.int .i64 x.d.par, .slice B0 (x.rl 0).length p0, .slice B1 (x.rl 1).length p1, .slice B2 (x.rl 2).length p2, .slice B3 (x.rl 3).length p3, .int .i64 (x.d.df 0), .int .i64 (x.d.df 1), .int .i64 (x.d.df 2), .int .i64 (x.d.df 3), .int .i64 (x.d.df 4), .int .i64 (x.d.df 5), .int .i64 x.d.wd, .int .i64 x.d.ws] 46)).drew) := ((Fr.refl _ _).alloc _).drew
            refine wpAnyT_one (i := 6) (by kernel_rfl) rfl (by rfl) (fun K hK => ?_)
            go_simp
            refine hK _ _ (.inr (keep14 ⟨t0, c0, c1, c2, c3, c4, c5, c6, c7, c8, c9, c10, c11, c12⟩ hf67 (by simp) (by simp))) ?_
            refine wpAnyT_one (i := 7) (by kernel_rfl) rfl (by rfl) (fun K2 hK2 => ?_)
            refine wp_append_row _ (.tmp 53) (.tmp 55) 22 (by rfl) b 46 i0 (.agg #[.int .i64 0, .slice none 0 0, .slice none 0 0, .slice none 0 0, .slice none 0 0, .int .i64 0, .int .i64 0, .int .i64 0, .int .i64 0, .int .i64 0, .int .i64 0, .int .i64 0, .int .i64 0]) 13 168 Try.underlying22 HIP.out.1 HIP.out.2.1 HIP.out.2.2.1 HIP.out.2.2.2 rfl (by omega) (.slice A9 k n9) k (dvcs out) (by rfl) (own_fr HOA.out hf67 (fun _ _ => by simp)) (some ⟨wr.heap.size, 0, none⟩) 1 1 [.int .i64 x.d.par, .slice B0 (x.rl 0).length p0, .slice B1 (x.rl 1).length p1, .slice B2 (x.rl 2).length p2, .slice B3 (x.rl 3).length p3, .int .i64 (x.d.df 0), .int .i64 (x.d.df 1), .int .i64 (x.d.df 2), .int .i64 (x.d.df 3), .int .i64 (x.d.df 4), .int .i64 (x.d.df 5), .int .i64 x.d.wd, .int .i64 x.d.ws] (by rfl) rfl ((row_lit wr _ _ rfl).fr0 (Fr.refl _ _).drew) (by intro u hu; simp at hu; rcases hu with rfl | rfl | rfl | rfl | rfl | rfl | rfl | rfl | rfl | rfl | rfl | rfl | rfl <;> rfl) (by simp only [maxLen]; omega) (by omega) (Nat.le_trans hbw hf67.size) ?_
            intro v7 w7 hown7 hg7 hat7
            obtain ⟨A7, c7', rfl, -, -, -⟩ := own_slice hown7
            have hf7 : Fr (Value.slice A9 k n9).ownBlock.toList wr w7 := (hf67.mono (fun _ _ h => by cases h)).trans (Fr.of_grown hg7)
            have nb : b ∉ (Value.slice A9 k n9).ownBlock.toList := fun hm => by
              obtain ⟨-, -, cs, h2⟩ := own_block HOA.out (show (Value.slice A9 k n9).ownBlock = some b by simpa using hm)
              exact Blk.ne_ h2 HBT.out (by decide) rfl
            have ng : g ∉ (Value.slice A9 k n9).ownBlock.toList := fun hm => by have := HGA.out g (by simpa using hm); omega
            have HS7 := hide (keep14 ⟨t0, c0, c1, c2, c3, c4, c5, c6, c7, c8, c9, c10, c11, c12⟩ hf7 nb (by simpa using ng))
            have HB7 := hide (HBT.out.fr hf7 nb)
            clear c0 c1 c2 c3 c4 c5 c6 c7 c8 c9 c10 c11 c12 t0 ng
            refine hK2 _ _ (.inr HS7.out) ?_
            try simp only [Act.put, List.setIfInBounds_toArray, List.set_cons_zero, List.set_cons_succ, List.getElem_toArray, List.getElem_cons_zero, List.getElem_cons_succ]
            refine wpAnyT_one (i := 8) (by kernel_rfl) rfl (by rfl) (fun K3 hK3 => ?_)
            go_simp
            refine hK3 _ _ (.inr HS7.out) ?_
            try simp only [Act.put, List.setIfInBounds_toArray, List.set_cons_zero, List.set_cons_succ, List.getElem_toArray, List.getElem_cons_zero, List.getElem_cons_succ]
            refine wpAnyT_one (i := 9) (by kernel_rfl) rfl (by rfl) (fun K4 hK4 => ?_)
            go_simp
            refine hK4 _ _ (.inr HS7.out) ?_
            try simp only [Act.put, List.setIfInBounds_toArray, List.set_cons_zero, List.set_cons_succ, List.getElem_toArray, List.getElem_cons_zero, List.getElem_cons_succ]
            refine wpAnyT_one (i := 10) (by kernel_rfl) rfl (by rfl) (fun K5 hK5 => ?_)
            have t7 : w7.cell? ⟨b, 0, none⟩ = some (.slice A9 k n9) := HS7.out.1
            have f7 : w7.frozen? ⟨b, 0, none⟩ = false := HB7.out.frozen 0
            go_simp
            refine hK5 _ _ (.inl rfl) ?_
            try simp only [Act.put, List.setIfInBounds_toArray, List.set_cons_zero, List.set_cons_succ, List.getElem_toArray, List.getElem_cons_zero, List.getElem_cons_succ]
            refine wpAnyT_done (by kernel_rfl) ?_ _
            obtain ⟨w8, hw8⟩ : ∃ w8, w8 = w7.setCell ⟨b, 0, none⟩ (.slice A7 (k + 1) c7') := ⟨_, rfl⟩
            rw [← hw8]
            have HB8 := hide (show Blk w8 b 122 _ from by rw [hw8]; exact HB7.out.set_ 0 (.slice A7 (k + 1) c7'))
            have HF78 : Hid (Fr [] (w7.setCell ⟨b, 0, none⟩ (.slice A7 (k + 1) c7')) w8) := hide (by rw [hw8]; exact Fr.refl _ _)
            have hf78 : Fr [b] w7 w8 := by rw [hw8]; exact (Fr.refl _ _).set (.inl (by simp)) _
            have HOS8 := hide (own_fr (own_fr HOS.out hf7 (fun y hy hm => by
              obtain ⟨-, -, cs, h2⟩ := own_block HOS.out hy
              obtain ⟨-, -, cs3, h3⟩ := own_block HOA.out (show (Value.slice A9 k n9).ownBlock = some y by simpa using hm)
              exact Blk.ne_ h2 h3 (by decide) rfl)) hf78 (fun y hy hm => by
              obtain ⟨-, -, cs, h2⟩ := own_block HOS.out hy
              exact Blk.ne_ h2 HBT.out (by decide) (List.mem_singleton.1 hm)))
            have t8 : w8.cell? ⟨b, 1, none⟩ = some (.slice S9 k m9) := HB8.out.cell 1
            have hz8 : wr.heap.size ≤ w8.heap.size := by have := hf7.size; have := hf78.size; omega
            have HOW7 := hide hown7
            have HG7 := hide (Fr.of_grown hg7)
            clear hown7 hg7 hat7 hf7 t7 f7 hw8 hf78 HS7 HB7 nb
            go_upto_region 18 with (first
              | (at_builtin
                 refine wpList_append_row _ rfl (.tmp 63) (.tmp 64) _ rfl b 3 i1 (.int .i64 0) 1 8 Try.underlying34 HII.out.1 HII.out.2.1 HII.out.2.2.1 HII.out.2.2.2 rfl (by omega) (.slice S9 k m9) k (List.replicate k (.int .i64 4)) rfl
                   (own_fr HOS8.out ((Fr.refl [] _).alloc _) (fun _ _ => by simp)) (some ⟨w8.heap.size, 0, none⟩) 1 1 [.int .i64 4] rfl rfl (row_one w8 _ _) (by intro u hu; simp at hu; subst hu; rfl) (by simp only [maxLen]; omega) (by omega) (by simp; omega) ?_
                 intro v9 w9 hown9 hg9 hat9
                 obtain ⟨S8, m8, rfl, -, -, -⟩ := own_slice hown9
                 have n9' : b ∉ (Value.slice S9 k m9).ownBlock.toList := fun hm => by obtain ⟨-, -, cs, h2⟩ := own_block HOS8.out (show (Value.slice S9 k m9).ownBlock = some b by simpa using hm); exact Blk.ne_ h2 HB8.out (by decide) rfl
                 have HB9 := hide ((HB8.out.fr ((Fr.refl [] _).alloc _) (by simp)).fr (Fr.of_grown hg9) n9')
                 have t9 := HB9.out.cell 1
                 have f9 := HB9.out.frozen 1
                 have HOW9 := hide hown9
                 have HG9 := hide (Fr.of_grown hg9)
                 have HAT9 := hide hat9
                 clear hown9 hg9 hat9 n9'))
            go_wp2
            go_roundg (ds.length - (k + 1))
            case measure => rw [HMM.out]; omega
            case rel =>
              refine ⟨k + 1, out ++ [⟨x.d.wrf rf, x.rl⟩], _, _, by omega, by go_num, DnAt.step (D := ⟨x.d.wrf rf, x.rl⟩) HAT.out HGE.out.symm f1 f2 (fun q hq => HROW.out q hq) ((Fr.refl [] _).alloc _).drew ?_ HG7.out (HF78.out.call ((Fr.refl [] _).alloc _)) HOW9.out HG9.out ?_ HTX.out.1 HTX.out.2, rfl⟩
              · rw [HCE.out]
                exact HOW7.out
              · rcases HAT9.out with h1 | h1
                · exact .inl h1
                · exact .inr ⟨_, h1, by simp; omega⟩
      · have hje : k = ds.length := by omega
        subst hje
        have hki : ¬ (ds.length : Int) < (ds.length : Int) := by omega
        have hat2 := HAT.out
        rw [HND.out] at hat2
        obtain ⟨T, hTb, hTp, htr, hgs, hlA, hlR⟩ := hat2.done HPN.out
        have HT := hide htr
        have hf0r := hf02.call HAT.out.fr
        obtain ⟨n1, n2, n3, n4⟩ := HNW.out
        rw [← hTp] at n1 n2 n3 n4
        have HTH : Hid (TrHi T out w.heap.size) := hide ⟨fun ad e => Nat.le_trans hsz2 (hlA ad e), fun x hx q hq g hg => Nat.le_trans hsz2 (hlR x hx q hq g hg), n4⟩
        have HTN : Hid (TrNew T w.heap.size) := hide ⟨by omega, by omega, n1, n2, n3⟩
        subst hTb
        clear htr hat2 hgs hTp n1 n2 n3 n4 hlA hlR
        go_wp2
        go_ret2
        exact ⟨hf0r, .inr ⟨HM.out, T, out, rfl, HT.out, HTN.out, HTH.out⟩⟩
end Go.Proofs.Ytdocdgghphhdpaa

