/- Walks: depgraph.reach and the function inside it. -/
import Derived.Test.YtkbfnhkcmelneaaMgResumeImplied2
import Derived.Test.YtkbfnhkcmelneaaGraM9Mg
import Derived.Deep.Cut
import Derived.Deep.CutBlock
namespace Go.Proofs.Ytkbfnhkcmelneaa
open Go.RowKit

/-- The variables of a search in memory: which nodes are reached, and the stack. -/
structure VisIn (w : World) (base rp sp rb n : Nat) (R : Nat → Bool) (st : List Nat) (v : Value) : Prop where
  rv : Blk w rp 51 #[.slice (some ⟨rb, 0, none⟩) n n]
  ra : FA w rb 4 bv n R
  sv : Blk w sp 50 #[v]
  own : w.ownsRow base 3 1 v st.length (st.map nv)
  low : base ≤ rp ∧ base ≤ sp ∧ base ≤ rb
def Vis (w : World) (base rp sp rb n : Nat) (R : Nat → Bool) (st : List Nat) : Prop := ∃ v, VisIn w base rp sp rb n R st v
section
variable {w w' : World} {base rp sp rb n : Nat} {R : Nat → Bool} {st : List Nat} {v : Value}
theorem VisIn.fr0 (h : VisIn w base rp sp rb n R st v) (k : Fr [] w w') : VisIn w' base rp sp rb n R st v :=
  ⟨h.rv.fr k (by simp), h.ra.fr0 k, h.sv.fr k (by simp), own_fr h.own k (fun _ _ => by simp), h.low⟩
theorem Vis.fr0 (h : Vis w base rp sp rb n R st) (k : Fr [] w w') : Vis w' base rp sp rb n R st := by
  obtain ⟨v, h⟩ := h
  exact ⟨v, h.fr0 k⟩
theorem VisIn.reach_ (h : VisIn w base rp sp rb n R st v) (c : Nat) : VisIn (w.setCell ⟨rb, c, none⟩ (.bool true)) base rp sp rb n (fun u => if u = c then true else R u) st v := by
  have h1 : rp ≠ rb := Blk.ne_ h.rv h.ra (by decide)
  have h2 : sp ≠ rb := Blk.ne_ h.sv h.ra (by decide)
  refine ⟨h.rv.far h1 _, h.ra.set_ c true, h.sv.far h2 _, own_fr h.own ((Fr.refl [rb] _).set (.inl (by simp)) _) (fun y hy => ?_), h.low⟩
  obtain ⟨_, _, cs, hb⟩ := own_block h.own hy
  have := Blk.ne_ hb h.ra (by decide)
  simpa using this
/-- The stack's variable is stored anew, its row having grown or turned. -/
theorem VisIn.push_ {w1 : World} {v' : Value} {st' : List Nat} (h : VisIn w base rp sp rb n R st v) (k : Fr v.ownBlock.toList w w1) (ho : w1.ownsRow base 3 1 v' st'.length (st'.map nv)) :
    VisIn (w1.setCell ⟨sp, 0, none⟩ v') base rp sp rb n R st' v' := by
  have hv : ∀ y, y ∈ v.ownBlock.toList → ∃ cs, Blk w y 3 cs := fun y hy => by
    cases e : v.ownBlock with
    | none => rw [e] at hy; cases hy
    | some z =>
      rw [e] at hy
      obtain ⟨_, _, cs, hb⟩ := own_block h.own e
      rw [List.mem_singleton.1 hy]
      exact ⟨cs, hb⟩
  have hrv := h.rv.fr k (fun hm => by obtain ⟨cs, hb⟩ := hv _ hm; exact Blk.ne_ hb h.rv (by decide) rfl)
  have hra := h.ra.fr k (fun hm => by obtain ⟨cs, hb⟩ := hv _ hm; exact Blk.ne_ hb h.ra (by decide) rfl)
  have hsv := h.sv.fr k (fun hm => by obtain ⟨cs, hb⟩ := hv _ hm; exact Blk.ne_ hb h.sv (by decide) rfl)
  have h1 : rp ≠ sp := Blk.ne_ h.rv h.sv (by decide)
  have h2 : rb ≠ sp := Blk.ne_ h.ra h.sv (by decide)
  refine ⟨hrv.far h1 _, hra.far h2 _, hsv.set_ 0 v', own_fr ho ((Fr.refl [sp] _).set (.inl (by simp)) _) (fun y hy => ?_), h.low⟩
  obtain ⟨_, _, cs, hb⟩ := own_block ho hy
  have := Blk.ne_ hb hsv (by decide)
  simpa using this
end
theorem own_pop {w : World} {base : Nat} {e : TypeId} {A : Option Addr} {n cap : Nat} {xs : List Value} (h : w.ownsRow base e 1 (.slice A (n + 1) cap) (n + 1) xs) :
    w.ownsRow base e 1 (.slice A n cap) n (xs.take n) := by
  rcases h.2 with ⟨h0, _⟩ | ⟨g, c, cur, hv, hb, hh, hnc, hm, hcur, hx⟩
  · cases h0
  · refine ⟨by rw [List.length_take, h.1]; omega, .inr ⟨g, c, cur, ?_, hb, hh, by omega, hm, hcur, ?_⟩⟩
    · injection hv with h1 _ h3
      rw [h1, h3]
    · rw [← hx, List.take_take]
      congr 1
      omega
def VisRel (w0 : World) (rp sp rb n : Nat) (R : Nat → Bool) (st C : List Nat) (m : Nat) (i : Value) (wr : World) : Prop :=
  ∃ (k : Nat) (R' : Nat → Bool) (st' : List Nat), k ≤ C.length ∧ i = .int .i64 k ∧ Vis wr w0.heap.size rp sp rb n R' st' ∧ visF R' st' (C.drop k) = visF R st C ∧ st'.length ≤ st.length + k ∧ Fr [] w0 wr ∧ m = C.length - k

set_option maxHeartbeats 4000000 in
theorem visit_any {w0 w : World} {rp sp rb n : Nat} {R : Nat → Bool} {st C : List Nat} (A : Option Addr) (cp : Nat) (hr : Row w0 A (C.map nv)) (hf : Fr [] w0 w) (hv : Vis w w0.heap.size rp sp rb n R st) (hC : ∀ c ∈ C, c < n) (hb : st.length + C.length ≤ 100000) :
    Calls Try.prog 31 #[.slice A C.length cp, .pointer (some ⟨rp, 0, none⟩), .pointer (some ⟨sp, 0, none⟩)] w fun e w' => e = .returned (.tuple #[]) ∧ Vis w' w0.heap.size rp sp rb n (visF R st C).1 (visF R st C).2 ∧ Fr [] w0 w' := by
  obtain ⟨i0, hi0, hz0, hz1, hz2⟩ := info_parts int_info1
  have HI := hide (And.intro hi0 (And.intro hz0 (And.intro hz1 hz2)))
  have HR := hide hr
  have HV := hide hv
  have HC := hide hC
  clear hr hv hC hi0 hz0 hz1 hz2
  go_enter Try.func31, Try.ntmps31
  go_wp2
  go_loopg [8] C.length (fun m i wr => VisRel w0 rp sp rb n R st C m i wr)
  case atStart => exact ⟨0, R, st, by omega, rfl, HV.out, by simp, by omega, hf, rfl⟩
  case round =>
    clear HV
    obtain ⟨k, R', st', hk, rfl, ⟨v, hvi⟩, heq, hsl, hfr, hmm⟩ := hrel
    have HM := hide hmm
    have HEQ := hide heq
    have HV := hide hvi
    clear hmm heq
    by_cases hlt : k < C.length
    · obtain ⟨c, hc⟩ : ∃ c, C[k]? = some c := ⟨_, List.getElem?_eq_getElem hlt⟩
      obtain ⟨ob, oo, e, c1⟩ := (HR.out.fr0 hfr).at_ (i := k) (u := nv c) (by simp [hc])
      subst e
      have hcn := HC.out c (List.mem_of_getElem? hc)
      have hkl : (k : Int) < (C.length : Int) := by omega
      have hcI : (c : Int) < (n : Int) := by omega
      have hdr : C.drop k = c :: C.drop (k + 1) := by
        rw [List.drop_eq_getElem_cons hlt]
        rw [List.getElem?_eq_getElem hlt] at hc
        injection hc with hc
        rw [hc]
      have hst : visF R' st' (C.drop k) = if R' c then visF R' st' (C.drop (k + 1)) else visF (fun u => if u = c then true else R' u) (st' ++ [c]) (C.drop (k + 1)) := by
        rw [hdr, visF]
      have HST := hide hst
      have g1 : wr.cell? ⟨rp, 0, none⟩ = some (.slice (some ⟨rb, 0, none⟩) n n) := hvi.rv.cell 0
      have g2 := hvi.ra.cell hcn
      have g3 := hvi.ra.frozen c
      have g4 : wr.cell? ⟨sp, 0, none⟩ = some v := hvi.sv.cell 0
      have g5 := hvi.sv.frozen 0
      have g6 := hvi.sv.lt
      have g7 := hvi.low
      have hrpb : rp ≠ rb := Blk.ne_ hvi.rv hvi.ra (by decide)
      have hspb : sp ≠ rb := Blk.ne_ hvi.sv hvi.ra (by decide)
      clear hc hdr hst hvi
      cases hR : R' c with
      | true =>
        rw [hR] at g2
        have HRR := hide hR
        clear hR
        go_wp2
        go_roundg (C.length - (k + 1))
        case measure => rw [HM.out]; omega
        case rel => exact ⟨k + 1, R', st', by omega, by go_num, ⟨v, HV.out⟩, by rw [← HEQ.out, HST.out, if_pos HRR.out], by omega, hfr, rfl⟩
      | false =>
        rw [hR] at g2
        have HRR := hide hR
        have hv1 := HV.out.reach_ c
        have hf1 := hfr.set (p := ⟨rb, c, none⟩) (.inr g7.2.2) (.bool true)
        clear hR
        go_upto_region 5 with fail
        generalize (wr.setCell ⟨rb, c, none⟩ (.bool true)) = w5 at hv1 hf1 ⊢
        have k4 : w5.cell? ⟨sp, 0, none⟩ = some v := hv1.sv.cell 0
        have k5 := hv1.sv.frozen 0
        have k6 := hv1.sv.lt
        have hsz : w0.heap.size ≤ w5.heap.size + 1 := by have := hf1.size; omega
        obtain ⟨A5, c5, rfl, -, -, -⟩ := own_slice hv1.own
        have HV1 := hide hv1
        clear hv1 g1 g2 g3 g4 g5 g6
        have hsl2 : st'.length ≤ 100000 := by omega
        go_wp2_with (first
          | (at_builtin
             refine wpList_append_row _ rfl (.tmp 20) (.tmp 22) _ rfl w0.heap.size 3 i0 (.int .i64 0) 1 8 Try.underlying50 HI.out.1 HI.out.2.1 HI.out.2.2.1 HI.out.2.2.2 rfl (by omega) (.slice A5 st'.length c5) st'.length (st'.map nv) rfl
               (own_fr HV1.out.own ((Fr.refl [] _).alloc _) (fun _ _ => by simp)) (some ⟨w5.heap.size, 0, none⟩) 1 1 [.int .i64 (c : Int)] rfl rfl (row_one w5 _ _) (by intro u hu; simp at hu; subst hu; rfl) (by simp only [maxLen]; omega) (by omega) (by simpa using hsz) ?_
             intro v1 w6 hown6 hg6 hat6
             obtain ⟨A6, c6, rfl, -, -, -⟩ := own_slice hown6
             have hp6 := HV1.out.push_ (((Fr.refl _ w5).alloc _).trans (Fr.of_grown hg6)) (v' := .slice A6 (st'.length + 1) c6) (st' := st' ++ [c]) (by rw [List.length_append, List.length_singleton, List.map_append]; exact hown6)
             have hf6 : Fr [] w0 w6 := (hf1.alloc _).grown hg6 (fun y hy => .inr (own_block HV1.out.own hy).1)
             have hne6 : ∀ y, (Value.slice A5 st'.length c5).ownBlock = some y → y ≠ sp := (fun y hy => by obtain ⟨_, _, cs, hb⟩ := own_block HV1.out.own hy; exact Blk.ne_ hb HV1.out.sv (by decide))
             have m4 := cell_grown ((Fr.refl [] w5).alloc _) hg6 k4 hne6
             have m5 := frozen_grown ((Fr.refl [] w5).alloc _) hg6 k5 k6 hne6
             have HP6 := hide hp6
             clear hown6 hg6 hat6 hp6 hne6))
        go_roundg (C.length - (k + 1))
        case measure => rw [HM.out]; omega
        case rel => exact ⟨k + 1, _, _, by omega, by go_num, ⟨_, HP6.out⟩, by rw [← HEQ.out, HST.out, HRR.out]; simp, by simp; omega, hf6.set (.inr g7.2.1) _, rfl⟩
    · have hkl : ¬ (k : Int) < (C.length : Int) := by omega
      have hfin := HEQ.out
      rw [List.drop_eq_nil_of_le (by omega), visF] at hfin
      have HF := hide hfin
      clear hfin
      go_wp2
      go_end0
      exact ⟨rfl, by rw [← HF.out]; exact ⟨v, HV.out⟩, hfr⟩
end Go.Proofs.Ytkbfnhkcmelneaa

