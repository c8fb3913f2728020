/- Walks over the reference of layer 24: invalid, Basic. -/
import Derived.Test.YtbnfdpemfmeldaaMgRuntimeCalls3
import Derived.Test.YtbnfdpemfmeldaaMgRuntimeCalls5
import Derived.Test.YtbnfdpemfmeldaaMgRuntimeCalls8
import Derived.Deep.Cut
import Derived.Deep.CutBlock
namespace Go.Proofs.Ytbnfdpemfmeldaa
open Go.RowKit

def invB (n : Int) (l : List (Int × Int)) : Bool := decide (¬ LinksOk n l)
theorem invB_true {n : Int} {l : List (Int × Int)} (h : ¬ LinksOk n l) : invB n l = true := decide_eq_true h
theorem invB_false {n : Int} {l : List (Int × Int)} (h : LinksOk n l) : invB n l = false := decide_eq_false (fun k => k h)
set_option maxHeartbeats 2000000 in
theorem rinvalid_any (n : Int) (A : Option Addr) (cp : Nat) (l : List (Int × Int)) (w : World) (hr : Row w A (pcs l)) (hm : l.length ≤ 4096) :
    Calls Try.prog 60 #[.int .i64 n, .slice A l.length cp] w fun e w' => e = .returned (.bool (invB n l)) ∧ Fr [] w w' := by
  have HR := hide hr
  clear hr
  by_cases hh : 0 ≤ n ∧ n ≤ 128 ∧ l.length ≤ 1024
  · obtain ⟨h0, h1, h2⟩ := hh
    go_enter Try.func60, Try.ntmps60
    go_wp2
    go_loopg [5] l.length (fun m i wr => ChkRel w n l m i wr)
    case atStart => exact ⟨0, by omega, rfl, by simp, Fr.refl _ _, rfl⟩
    case round =>
      obtain ⟨k, hk, rfl, hok, hfr, hmm⟩ := hrel
      have HOK := hide hok
      have HM := hide hmm
      clear hok hmm
      by_cases hlt : k < l.length
      · obtain ⟨p, hp⟩ : ∃ p, l[k]? = some p := ⟨_, List.getElem?_eq_getElem hlt⟩
        obtain ⟨ob, oo, rfl, c1, c2⟩ := (HR.out.fr0 hfr).link hp
        have HP := hide hp
        clear hp
        have hkl : (k : Int) < (l.length : Int) := by omega
        obtain ⟨c, s⟩ := p
        simp only at c1 c2
        go_wp2
        all_goals first
          | (go_roundg (l.length - (k + 1))
             case measure => rw [HM.out]; omega
             case rel =>
               refine ⟨k + 1, by omega, by go_num, fun q hq => ?_, hfr, rfl⟩
               rw [take_succ_some HP.out] at hq
               rcases List.mem_append.1 hq with h | h
               · exact HOK.out q h
               · rw [List.mem_singleton.1 h]
                 unfold LinkOk
                 simp only
                 omega)
          | (go_ret
             refine ⟨ret_bool (invB_true (fun h => ?_)).symm, hfr⟩
             have h9 := h.2.2.2 (c, s) (List.mem_of_getElem? HP.out)
             unfold LinkOk at h9
             simp only at h9
             omega)
      · have hkl : ¬ (k : Int) < (l.length : Int) := by omega
        have hall : LinksOk n l := ⟨h0, h1, h2, by have := HOK.out; rwa [List.take_of_length_le (by omega)] at this⟩
        have HALL := hide hall
        clear hall HOK
        go_wp2
        go_ret
        exact ⟨ret_bool (invB_false HALL.out).symm, hfr⟩
  · have hx : n < 0 ∨ 128 < n ∨ 1024 < (l.length : Int) := by omega
    have hno : ¬ LinksOk n l := fun h => hh ⟨h.1, h.2.1, h.2.2.1⟩
    have HNO := hide hno
    clear hh hno
    go_enter Try.func60, Try.ntmps60
    go_wp2
    all_goals first
      | (go_ret
         exact ⟨ret_bool (invB_true HNO.out).symm, Fr.refl _ _⟩)
      | (exfalso; omega)

def DupRel (w : World) (l : List (Int × Int)) (m : Nat) (i : Value) (wr : World) : Prop :=
  ∃ k : Nat, k ≤ l.length ∧ i = .int .i64 k ∧ (l.take k).Nodup ∧ Fr [] w wr ∧ m = l.length - k
def Dup2Rel (w : World) (l : List (Int × Int)) (p : Int × Int) (n : Nat) (m : Nat) (i : Value) (wr : World) : Prop :=
  ∃ k : Nat, k ≤ n ∧ i = .int .i64 k ∧ p ∉ l.take k ∧ Fr [] w wr ∧ m = n - k

set_option maxHeartbeats 2000000 in
theorem rbasic_any (n : Int) (A : Option Addr) (cp : Nat) (l : List (Int × Int)) (w : World) (hr : Row w A (pcs l)) (hm : l.length ≤ 4096) :
    Calls Try.prog 50 #[.int .i64 n, .slice A l.length cp] w fun e w' => e = .returned (.int .i64 (basicM n l)) ∧ Fr [] w w' := by
  have HR := hide hr
  clear hr
  go_enter Try.func50, Try.ntmps50
  go_wp2_with fail
  refine (rinvalid_any n A cp l w HR.out hm).mono ?_
  rintro e w1 ⟨rfl, hfr1⟩
  by_cases hok : LinksOk n l
  · rw [invB_false hok]
    have HOK := hide hok
    clear hok
    go_wp2
    go_loopg [5] l.length (fun m i wr => DupRel w l m i wr)
    case atStart => exact ⟨0, by omega, rfl, by simp, hfr1, rfl⟩
    case round =>
      clear hfr1
      obtain ⟨k, hk, rfl, hnd, hfr, hmm⟩ := hrel
      have HND := hide hnd
      have HM := hide hmm
      clear hnd hmm
      by_cases hlt : k < l.length
      · obtain ⟨p, hp⟩ : ∃ p, l[k]? = some p := ⟨_, List.getElem?_eq_getElem hlt⟩
        have HP := hide hp
        clear hp
        have hkl : (k : Int) < (l.length : Int) := by omega
        go_wp2
        go_loopg [6] k (fun m i wi => Dup2Rel w l p k m i wi)
        case atStart => exact ⟨0, by omega, rfl, by simp, hfr, rfl⟩
        case round =>
          clear hfr
          obtain ⟨j, hj, rfl, hnp, hfr, hmm⟩ := hrel
          have HNP := hide hnp
          have HM2 := hide hmm
          clear hnp hmm
          by_cases hlt2 : j < k
          · obtain ⟨q, hq⟩ : ∃ q, l[j]? = some q := ⟨_, List.getElem?_eq_getElem (by omega)⟩
            obtain ⟨ob, oo, rfl, c1, c2⟩ := (HR.out.fr0 hfr).link HP.out
            obtain ⟨_, _, e2, c3, c4⟩ := (HR.out.fr0 hfr).link hq
            cases e2
            have HQ := hide hq
            clear hq
            have hjl : (j : Int) < (l.length : Int) := by omega
            have hjk : (j : Int) < (k : Int) := by omega
            obtain ⟨c, s⟩ := p
            obtain ⟨c', s'⟩ := q
            simp only at c1 c2 c3 c4
            by_cases e : c = c' ∧ s = s'
            · obtain ⟨rfl, rfl⟩ := e
              go_wp2
              go_quiet (fail)
              go_wp2
              go_ret
              refine ⟨ret_int (basicM_dup HOK.out (fun hd => ?_)).symm, hfr.drewN _⟩
              have h1 := split_at_some HP.out
              rw [h1, List.nodup_append] at hd
              refine hd.2.2 (c, s) (List.mem_iff_getElem?.2 ⟨j, ?_⟩) _ (List.mem_cons_self ..) rfl
              rw [List.getElem?_take, if_pos hlt2]
              exact HQ.out
            · have hne : ¬ (c, s) = (c', s') := fun h => e (by injection h with h1 h2; exact ⟨h1, h2⟩)
              have HNE := hide hne
              have e' : (c = c' ∧ ¬ s = s') ∨ ¬ c = c' := by omega
              clear e hne
              rcases e' with ⟨rfl, e2⟩ | e1
              all_goals
                go_wp2
                go_quiet (fail)
                go_wp2
                go_roundg (k - (j + 1))
                case measure => rw [HM2.out]; omega
                case rel =>
                  refine ⟨j + 1, by omega, by go_num, ?_, hfr.drewN _, rfl⟩
                  rw [take_succ_some HQ.out]
                  intro h
                  rcases List.mem_append.1 h with h | h
                  · exact HNP.out h
                  · exact HNE.out (List.mem_singleton.1 h)
          · have hjk : ¬ (j : Int) < (k : Int) := by omega
            have hjk2 : j = k := by omega
            have HJK := hide hjk2
            clear hjk2
            go_wp2
            go_roundg (l.length - (k + 1))
            case measure => rw [HM.out]; omega
            case rel =>
              refine ⟨k + 1, by omega, by go_num, ?_, hfr, rfl⟩
              rw [take_succ_some HP.out, List.nodup_append]
              refine ⟨HND.out, by simp, fun a ha b hb => ?_⟩
              rw [List.mem_singleton.1 hb]
              rintro rfl
              have := HNP.out
              rw [HJK.out] at this
              exact this ha
      · have hkl : ¬ (k : Int) < (l.length : Int) := by omega
        go_wp2
        go_ret
        refine ⟨ret_int (basicM_ok HOK.out ?_).symm, hfr⟩
        have := HND.out
        rwa [List.take_of_length_le (by omega)] at this
  · rw [invB_true hok]
    go_wp2
    go_ret
    exact ⟨ret_int (basicM_not hok).symm, hfr1⟩
end Go.Proofs.Ytbnfdpemfmeldaa

/- Walks: depgraph.reach and the function inside it. -/
namespace Go.Proofs.Ytbnfdpemfmeldaa
open Go.RowKit

/-- The variables of a search in memory: which nodes are reached, and the stack. -/
structure VisIn (w : World) (base rp sp rb n : Nat) (R : Nat → Bool) (st : List Nat) (v : Value) : Prop where
  rv : Blk w rp 52 #[.slice (some ⟨rb, 0, none⟩) n n]
  ra : FA w rb 4 bv n R
  sv : Blk w sp 27 #[v]
  own : w.ownsRow base 3 1 v st.length (st.map nv)
  low : base ≤ rp ∧ base ≤ sp ∧ base ≤ rb
def Vis (w : World) (base rp sp rb n : Nat) (R : Nat → Bool) (st : List Nat) : Prop := ∃ v, VisIn w base rp sp rb n R st v
section
variable {w w' : World} {base rp sp rb n : Nat} {R : Nat → Bool} {st : List Nat} {v : Value}
theorem VisIn.fr0 (h : VisIn w base rp sp rb n R st v) (k : Fr [] w w') : VisIn w' base rp sp rb n R st v :=
  ⟨h.rv.fr k (by simp), h.ra.fr0 k, h.sv.fr k (by simp), own_fr h.own k (fun _ _ => by simp), h.low⟩
theorem Vis.fr0 (h : Vis w base rp sp rb n R st) (k : Fr [] w w') : Vis w' base rp sp rb n R st := by
  obtain ⟨v, h⟩ := h
  exact ⟨v, h.fr0 k⟩
theorem VisIn.reach_ (h : VisIn w base rp sp rb n R st v) (c : Nat) : VisIn (w.setCell ⟨rb, c, none⟩ (.bool true)) base rp sp rb n (fun u => if u = c then true else R u) st v := by
  have h1 : rp ≠ rb := Blk.ne_ h.rv h.ra (by decide)
  have h2 : sp ≠ rb := Blk.ne_ h.sv h.ra (by decide)
  refine ⟨h.rv.far h1 _, h.ra.set_ c true, h.sv.far h2 _, own_fr h.own ((Fr.refl [rb] _).set (.inl (by simp)) _) (fun y hy => ?_), h.low⟩
  obtain ⟨_, _, cs, hb⟩ := own_block h.own hy
  have := Blk.ne_ hb h.ra (by decide)
  simpa using this
/-- The stack's variable is stored anew, its row having grown or turned. -/
theorem VisIn.push_ {w1 : World} {v' : Value} {st' : List Nat} (h : VisIn w base rp sp rb n R st v) (k : Fr v.ownBlock.toList w w1) (ho : w1.ownsRow base 3 1 v' st'.length (st'.map nv)) :
    VisIn (w1.setCell ⟨sp, 0, none⟩ v') base rp sp rb n R st' v' := by
  have hv : ∀ y, y ∈ v.ownBlock.toList → ∃ cs, Blk w y 3 cs := fun y hy => by
    cases e : v.ownBlock with
    | none => rw [e] at hy; cases hy
    | some z =>
      rw [e] at hy
      obtain ⟨_, _, cs, hb⟩ := own_block h.own e
      rw [List.mem_singleton.1 hy]
      exact ⟨cs, hb⟩
  have hrv := h.rv.fr k (fun hm => by obtain ⟨cs, hb⟩ := hv _ hm; exact Blk.ne_ hb h.rv (by decide) rfl)
  have hra := h.ra.fr k (fun hm => by obtain ⟨cs, hb⟩ := hv _ hm; exact Blk.ne_ hb h.ra (by decide) rfl)
  have hsv := h.sv.fr k (fun hm => by obtain ⟨cs, hb⟩ := hv _ hm; exact Blk.ne_ hb h.sv (by decide) rfl)
  have h1 : rp ≠ sp := Blk.ne_ h.rv h.sv (by decide)
  have h2 : rb ≠ sp := Blk.ne_ h.ra h.sv (by decide)
  refine ⟨hrv.far h1 _, hra.far h2 _, hsv.set_ 0 v', own_fr ho ((Fr.refl [sp] _).set (.inl (by simp)) _) (fun y hy => ?_), h.low⟩
  obtain ⟨_, _, cs, hb⟩ := own_block ho hy
  have := Blk.ne_ hb hsv (by decide)
  simpa using this
end
theorem own_pop {w : World} {base : Nat} {e : TypeId} {A : Option Addr} {n cap : Nat} {xs : List Value} (h : w.ownsRow base e 1 (.slice A (n + 1) cap) (n + 1) xs) :
    w.ownsRow base e 1 (.slice A n cap) n (xs.take n) := by
  rcases h.2 with ⟨h0, _⟩ | ⟨g, c, cur, hv, hb, hh, hnc, hm, hcur, hx⟩
  · cases h0
  · refine ⟨by rw [List.length_take, h.1]; omega, .inr ⟨g, c, cur, ?_, hb, hh, by omega, hm, hcur, ?_⟩⟩
    · injection hv with h1 _ h3
      rw [h1, h3]
    · rw [← hx, List.take_take]
      congr 1
      omega
def VisRel (w0 : World) (rp sp rb n : Nat) (R : Nat → Bool) (st C : List Nat) (m : Nat) (i : Value) (wr : World) : Prop :=
  ∃ (k : Nat) (R' : Nat → Bool) (st' : List Nat), k ≤ C.length ∧ i = .int .i64 k ∧ Vis wr w0.heap.size rp sp rb n R' st' ∧ visF R' st' (C.drop k) = visF R st C ∧ st'.length ≤ st.length + k ∧ Fr [] w0 wr ∧ m = C.length - k

set_option maxHeartbeats 4000000 in
theorem visit_any {w0 w : World} {rp sp rb n : Nat} {R : Nat → Bool} {st C : List Nat} (A : Option Addr) (cp : Nat) (hr : Row w0 A (C.map nv)) (hf : Fr [] w0 w) (hv : Vis w w0.heap.size rp sp rb n R st) (hC : ∀ c ∈ C, c < n) (hb : st.length + C.length ≤ 100000) :
    Calls Try.prog 63 #[.slice A C.length cp, .pointer (some ⟨rp, 0, none⟩), .pointer (some ⟨sp, 0, none⟩)] w fun e w' => e = .returned (.tuple #[]) ∧ Vis w' w0.heap.size rp sp rb n (visF R st C).1 (visF R st C).2 ∧ Fr [] w0 w' := by
  obtain ⟨i0, hi0, hz0, hz1, hz2⟩ := info_parts int_info1
  have HI := hide (And.intro hi0 (And.intro hz0 (And.intro hz1 hz2)))
  have HR := hide hr
  have HV := hide hv
  have HC := hide hC
  clear hr hv hC hi0 hz0 hz1 hz2
  go_enter Try.func63, Try.ntmps63
  go_wp2
  go_loopg [8] C.length (fun m i wr => VisRel w0 rp sp rb n R st C m i wr)
  case atStart => exact ⟨0, R, st, by omega, rfl, HV.out, by simp, by omega, hf, rfl⟩
  case round =>
    clear HV
    obtain ⟨k, R', st', hk, rfl, ⟨v, hvi⟩, heq, hsl, hfr, hmm⟩ := hrel
    have HM := hide hmm
    have HEQ := hide heq
    have HV := hide hvi
    clear hmm heq
    by_cases hlt : k < C.length
    · obtain ⟨c, hc⟩ : ∃ c, C[k]? = some c := ⟨_, List.getElem?_eq_getElem hlt⟩
      obtain ⟨ob, oo, e, c1⟩ := (HR.out.fr0 hfr).at_ (i := k) (u := nv c) (by simp [hc])
      subst e
      have hcn := HC.out c (List.mem_of_getElem? hc)
      have hkl : (k : Int) < (C.length : Int) := by omega
      have hcI : (c : Int) < (n : Int) := by omega
      have hdr : C.drop k = c :: C.drop (k + 1) := by
        rw [List.drop_eq_getElem_cons hlt]
        rw [List.getElem?_eq_getElem hlt] at hc
        injection hc with hc
        rw [hc]
      have hst : visF R' st' (C.drop k) = if R' c then visF R' st' (C.drop (k + 1)) else visF (fun u => if u = c then true else R' u) (st' ++ [c]) (C.drop (k + 1)) := by
        rw [hdr, visF]
      have HST := hide hst
      have g1 : wr.cell? ⟨rp, 0, none⟩ = some (.slice (some ⟨rb, 0, none⟩) n n) := hvi.rv.cell 0
      have g2 := hvi.ra.cell hcn
      have g3 := hvi.ra.frozen c
      have g4 : wr.cell? ⟨sp, 0, none⟩ = some v := hvi.sv.cell 0
      have g5 := hvi.sv.frozen 0
      have g6 := hvi.sv.lt
      have g7 := hvi.low
      have hrpb : rp ≠ rb := Blk.ne_ hvi.rv hvi.ra (by decide)
      have hspb : sp ≠ rb := Blk.ne_ hvi.sv hvi.ra (by decide)
      clear hc hdr hst hvi
      cases hR : R' c with
      | true =>
        rw [hR] at g2
        have HRR := hide hR
        clear hR
        go_wp2
        go_roundg (C.length - (k + 1))
        case measure => rw [HM.out]; omega
        case rel => exact ⟨k + 1, R', st', by omega, by go_num, ⟨v, HV.out⟩, by rw [← HEQ.out, HST.out, if_pos HRR.out], by omega, hfr, rfl⟩
      | false =>
        rw [hR] at g2
        have HRR := hide hR
        have hv1 := HV.out.reach_ c
        have hf1 := hfr.set (p := ⟨rb, c, none⟩) (.inr g7.2.2) (.bool true)
        clear hR
        go_upto_region 5 with fail
        generalize (wr.setCell ⟨rb, c, none⟩ (.bool true)) = w5 at hv1 hf1 ⊢
        have k4 : w5.cell? ⟨sp, 0, none⟩ = some v := hv1.sv.cell 0
        have k5 := hv1.sv.frozen 0
        have k6 := hv1.sv.lt
        have hsz : w0.heap.size ≤ w5.heap.size + 1 := by have := hf1.size; omega
        obtain ⟨A5, c5, rfl, -, -, -⟩ := own_slice hv1.own
        have HV1 := hide hv1
        clear hv1 g1 g2 g3 g4 g5 g6
        have hsl2 : st'.length ≤ 100000 := by omega
        go_wp2_with (first
          | (at_builtin
             refine wpList_append_row _ rfl (.tmp 20) (.tmp 22) _ rfl w0.heap.size 3 i0 (.int .i64 0) 1 8 Try.underlying27 HI.out.1 HI.out.2.1 HI.out.2.2.1 HI.out.2.2.2 rfl (by omega) (.slice A5 st'.length c5) st'.length (st'.map nv) rfl
               (own_fr HV1.out.own ((Fr.refl [] _).alloc _) (fun _ _ => by simp)) (some ⟨w5.heap.size, 0, none⟩) 1 1 [.int .i64 (c : Int)] rfl rfl (row_one w5 _ _) (by intro u hu; simp at hu; subst hu; rfl) (by simp only [maxLen]; omega) (by omega) (by simpa using hsz) ?_
             intro v1 w6 hown6 hg6 hat6
             obtain ⟨A6, c6, rfl, -, -, -⟩ := own_slice hown6
             have hp6 := HV1.out.push_ (((Fr.refl _ w5).alloc _).trans (Fr.of_grown hg6)) (v' := .slice A6 (st'.length + 1) c6) (st' := st' ++ [c]) (by rw [List.length_append, List.length_singleton, List.map_append]; exact hown6)
             have hf6 : Fr [] w0 w6 := (hf1.alloc _).grown hg6 (fun y hy => .inr (own_block HV1.out.own hy).1)
             have hne6 : ∀ y, (Value.slice A5 st'.length c5).ownBlock = some y → y ≠ sp := (fun y hy => by obtain ⟨_, _, cs, hb⟩ := own_block HV1.out.own hy; exact Blk.ne_ hb HV1.out.sv (by decide))
             have m4 := cell_grown ((Fr.refl [] w5).alloc _) hg6 k4 hne6
             have m5 := frozen_grown ((Fr.refl [] w5).alloc _) hg6 k5 k6 hne6
             have HP6 := hide hp6
             clear hown6 hg6 hat6 hp6 hne6))
        go_roundg (C.length - (k + 1))
        case measure => rw [HM.out]; omega
        case rel => exact ⟨k + 1, _, _, by omega, by go_num, ⟨_, HP6.out⟩, by rw [← HEQ.out, HST.out, HRR.out]; simp, by simp; omega, hf6.set (.inr g7.2.1) _, rfl⟩
    · have hkl : ¬ (k : Int) < (C.length : Int) := by omega
      have hfin := HEQ.out
      rw [List.drop_eq_nil_of_le (by omega), visF] at hfin
      have HF := hide hfin
      clear hfin
      go_wp2
      go_end0
      exact ⟨rfl, by rw [← HF.out]; exact ⟨v, HV.out⟩, hfr⟩
end Go.Proofs.Ytbnfdpemfmeldaa

