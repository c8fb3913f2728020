/- Walks: depgraph.Levels. -/
import Derived.Test.YtnfhiadhpbojkaaMgDepgraphMinimal4
import Derived.Test.YtnfhiadhpbojkaaGraM5Mg
import Derived.RegionTactic
import Derived.ChangeAlike
namespace Go.Proofs.Ytnfhiadhpbojkaa
open Go.RowKit

def levelsM (n : Int) (l : List (Int × Int)) : List Nat × Int :=
  if (orderM n l).2 = 0 then ((List.range n.toNat).map (levs (toNs l) (orderM n l).1), 0) else ([], (orderM n l).2)
def LevRet (w : World) (n : Int) (l : List (Int × Int)) (e : Ending) (w' : World) : Prop :=
  ∃ v, e = .returned (.tuple #[v, .int .i64 (levelsM n l).2]) ∧ w'.ownsRow w.heap.size 3 1 v (levelsM n l).1.length ((levelsM n l).1.map nv) ∧ Fr [] w w'
/-- If there is no error, the order takes every node. -/
theorem orderM_zero {n : Int} {l : List (Int × Int)} (h : (orderM n l).2 = 0) : ∃ N : Nat, n = N ∧ N ≤ 128 ∧ LinksOk (N : Int) l ∧ l.Nodup ∧ basicM (N : Int) l = 0 ∧ (greedy N (toNs l)).length = N ∧ orderM (N : Int) l = (greedy N (toNs l), 0) := by
  by_cases hb : basicM n l = 0
  · obtain ⟨hok, hnd⟩ := basicM_zero hb
    obtain ⟨N, rfl⟩ := Int.eq_ofNat_of_zero_le hok.1
    have hN : N ≤ 128 := by have := hok.2.1; omega
    by_cases hf : (greedy N (toNs l)).length = N
    · refine ⟨N, rfl, hN, hok, hnd, hb, hf, ?_⟩
      unfold orderM
      rw [hb, if_pos rfl, Int.toNat_natCast, if_pos hf]
    · unfold orderM at h
      rw [hb, if_pos rfl, Int.toNat_natCast, if_neg hf] at h
      cases h
  · unfold orderM at h
    rw [if_neg hb] at h
    exact absurd h hb
def LvRel1 (w1 : World) (g n : Nat) (L : List (Nat × Nat)) (o : List Nat) (m : Nat) (i : Value) (wr : World) : Prop :=
  ∃ k : Nat, k ≤ o.length ∧ i = .int .i64 k ∧ FA wr g 3 nv n (levs L (o.take k)) ∧ Fr [] w1 wr ∧ m = o.length - k
def LvRel2 (w1 : World) (g n : Nat) (C : List Nat) (v : Nat) (f : Nat → Nat) (m : Nat) (i : Value) (wr : World) : Prop :=
  ∃ k : Nat, k ≤ C.length ∧ i = .int .i64 k ∧ FA wr g 3 nv n ((C.take k).foldl (levS v) f) ∧ Fr [] w1 wr ∧ m = C.length - k

set_option maxHeartbeats 4000000 in
theorem levels_any24 (n : Int) (A : Option Addr) (cp : Nat) (l : List (Int × Int)) (w : World) (hr : Row w A (pcs l)) (hm : l.length ≤ 4096) :
    Calls Try.prog 23 #[.int .i64 n, .slice A l.length cp] w (LevRet w n l) := by
  have HR := hide hr
  clear hr
  go_enter Try.func23, Try.ntmps23
  go_wp2_with fail
  refine (order_any24 n A cp l w HR.out hm).mono ?_
  rintro e w1 ⟨v, rfl, hown, hf1⟩
  by_cases hb : (orderM n l).2 = 0
  · obtain ⟨N, rfl, hN, hok, -, -, hful, hom⟩ := orderM_zero hb
    have hlm : levelsM (N : Int) l = ((List.range N).map (levs (toNs l) (greedy N (toNs l))), 0) := by
      unfold levelsM
      rw [if_pos hb, hom, Int.toNat_natCast]
    rw [hom] at hown ⊢
    simp only at hown ⊢
    have hl1 : l.length ≤ 1024 := hok.2.2.1
    have hgo := greedy_ok N (toNs l)
    have HLM := hide hlm
    have HOK := hide hok
    clear hb hom hlm hok
    obtain ⟨L, hL⟩ : ∃ L, L = toNs l := ⟨_, rfl⟩
    have hLl : L.length ≤ 1024 := by rw [hL]; simp [toNs]; omega
    rw [← hL] at hown hgo HLM hful
    obtain ⟨o, ho⟩ : ∃ o, o = greedy N L := ⟨_, rfl⟩
    rw [← ho] at hown hgo HLM hful
    obtain ⟨A2, c2, rfl, -, hro, -⟩ := own_slice hown
    have HRO := hide hro
    have HGO := hide hgo
    have HL := hide hL
    have hol : o.length ≤ 128 := by omega
    clear ho hown hro hgo hL hful
    go_wp2_with fail
    refine (neighbors_any false N A cp l w1 (HR.out.fr0 hf1) HOK.out).mono ?_
    rintro e w2 ⟨g, rfl, hls, hf2⟩
    have hmk := make_ints N N (Nat.le_refl _) (by omega)
    have hnew := FA.new w2 3 nv 0 N
    have hfr3 : Fr [] w2 (w2.alloc (.cells (Array.replicate N (.int .i64 0)) 3)) := (Fr.refl _ _).alloc _
    have HLS := hide hls
    have HRO2 := hide (HRO.out.fr0 hf2)
    clear hls HRO
    go_wp2
    have hnew' : FA (w2.alloc (.cells (Array.replicate N (.int .i64 0)) 3)) w2.heap.size 3 nv N (fun _ => 0) := hnew
    clear hnew
    generalize (w2.alloc (.cells (Array.replicate N (.int .i64 0)) 3)) = w3 at hnew' hfr3 ⊢
    obtain ⟨lg, hlg⟩ : ∃ lg, lg = w2.heap.size := ⟨_, rfl⟩
    have hlw : w2.heap.size ≤ lg := by omega
    rw [← hlg] at hnew' ⊢
    clear hlg hmk
    go_loopg [30] o.length (fun m i wr => LvRel1 w2 lg N L o m i wr)
    case atStart => exact ⟨0, by omega, rfl, hnew'.congr (fun u _ => by simp [levs]), hfr3, rfl⟩
    case round =>
      clear hnew' hfr3
      obtain ⟨k, hk, rfl, hfa, hfr, hmm⟩ := hrel
      have HM := hide hmm
      have HFA := hide hfa
      clear hmm hfa
      by_cases hlt : k < o.length
      · obtain ⟨v, hv⟩ : ∃ v, o[k]? = some v := ⟨_, List.getElem?_eq_getElem hlt⟩
        obtain ⟨ob, oo, e, c1⟩ := (HRO2.out.fr0 hfr).at_ (i := k) (u := nv v) (by simp [hv])
        subst e
        have hvN := HGO.out.lt v (List.mem_of_getElem? hv)
        have hkl : (k : Int) < (o.length : Int) := by omega
        have hvi : (v : Int) < (N : Int) := by omega
        have HV := hide (take_succ_some hv)
        clear hv
        obtain ⟨vc, hcv1, -, howc, -, -⟩ := HLS.out.at_ (nbs_get false (toNs l) hvN)
        have hcv := Fr.cell hfr hcv1 (by simp)
        have hCm : ∀ u, u ∈ nb false (toNs l) v → u < N := fun u hu => by
          have hp : (v, u) ∈ toNs l := by simpa using (nb_mem (cons := false)).1 hu
          exact (toNs_lt HOK.out.2.2.2 _ hp).2
        have hCl := nb_length_le false (toNs l) v
        rw [← HL.out] at hCm hCl howc
        have hlv : levV L (levs L (o.take k)) v = (nb false L v).foldl (levS v) (levs L (o.take k)) := rfl
        have hfb : ∀ u, levs L (o.take k) u ≤ 131072 := fun u => levs_bound hLl (by rw [List.length_take]; omega) u
        generalize nb false L v = C at hCm hCl howc hlv
        generalize hf0 : levs L (o.take k) = f at hlv hfb HFA
        have HF0 := hide hf0
        have HLV := hide hlv
        have HFBD := hide hfb
        have HCM := hide hCm
        obtain ⟨AC, cc, rfl, -, hrc, -⟩ := own_slice howc
        have HRC := hide hrc
        clear hCm howc hrc hcv1 hlv hf0 hfb
        go_wp2
        go_loopg [39] C.length (fun m i wr => LvRel2 w2 lg N C v f m i wr)
        case atStart => exact ⟨0, by omega, rfl, HFA.out, hfr, rfl⟩
        case round =>
          clear HFA hfr hcv c1
          obtain ⟨j, hj, rfl, hfa, hfr, hmm⟩ := hrel
          have HM2 := hide hmm
          have HFA := hide hfa
          clear hmm hfa
          by_cases hlt2 : j < C.length
          · obtain ⟨u, hu⟩ : ∃ u, C[j]? = some u := ⟨_, List.getElem?_eq_getElem hlt2⟩
            obtain ⟨ob2, oo2, e, c1⟩ := (HRC.out.fr0 hfr).at_ (i := j) (u := nv u) (by simp [hu])
            subst e
            have huN := HCM.out u (List.mem_of_getElem? hu)
            have hjl : (j : Int) < (C.length : Int) := by omega
            have hui : (u : Int) < (N : Int) := by omega
            have hc1 := HFA.out.cell hvN
            have hc2 := HFA.out.frozen v
            have hc3 := HFA.out.cell huN
            have HU : Hid ((C.take (j + 1)).foldl (levS v) f = levS v ((C.take j).foldl (levS v) f) u) := hide (by rw [take_succ_some hu]; simp)
            have hb1 := fold_le (v := v) (C.take j) f HFBD.out v
            have hb2 := fold_le (v := v) (C.take j) f HFBD.out u
            rw [List.length_take] at hb1 hb2
            clear hu
            generalize hF : (C.take j).foldl (levS v) f = F at hc1 hc3 HU HFA hb1 hb2
            have hx1 : F v ≤ 200000 := by omega
            have hx2 : F u ≤ 200000 := by omega
            clear hF hb1 hb2
            generalize hx : F v = x at hc1 hx1
            generalize hy : F u = y at hc3 hx2
            have HX := hide hx
            have HY := hide hy
            clear hx hy
            go_wp2
            go_region
            go_wp2
            all_goals
              go_roundg (C.length - (j + 1))
              case measure => rw [HM2.out]; omega
              case rel =>
                refine ⟨j + 1, by omega, by go_num, ?_, ?_, rfl⟩
                · first
                    | (have e0 : max x (y + 1) = y + 1 := by omega
                       have h1 := (HFA.out.set_ v (y + 1)).fr0 (Fr.refl [] _).drew
                       rw [show nv (y + 1) = .int .i64 ((y : Int) + 1) from rfl] at h1
                       refine h1.congr (fun t _ => ?_)
                       rw [HU.out]
                       unfold levS
                       by_cases e : t = v
                       · rw [if_pos e, if_pos e, HX.out, HY.out, e0]
                       · rw [if_neg e, if_neg e])
                    | (have e0 : max x (y + 1) = x := by omega
                       have h1 := (HFA.out.set_ v x).fr0 (Fr.refl [] _).drew
                       refine h1.congr (fun t _ => ?_)
                       rw [HU.out]
                       unfold levS
                       by_cases e : t = v
                       · rw [if_pos e, if_pos e, HX.out, HY.out, e0]
                       · rw [if_neg e, if_neg e])
                · exact (hfr.set (.inr hlw) _).drew
          · have hjl : ¬ (j : Int) < (C.length : Int) := by omega
            have hfa := HFA.out
            rw [List.take_of_length_le (by omega), ← HLV.out, ← HF0.out, ← levs_snoc, ← HV.out] at hfa
            have HFB := hide hfa
            clear hfa HFA
            go_wp2
            go_roundg (o.length - (k + 1))
            case measure => rw [HM.out]; omega
            case rel => exact ⟨k + 1, by omega, by go_num, HFB.out, hfr, rfl⟩
      · have hkl : ¬ (k : Int) < (o.length : Int) := by omega
        have hfa := HFA.out
        rw [List.take_of_length_le (by omega)] at hfa
        have hfin := hfa.own (base := w.heap.size) (by have := hf1.size; have := hf2.size; omega) (by simp [maxLen]; omega)
        have HFIN := hide hfin
        clear hfa hfin
        go_wp2
        go_ret2
        exact ⟨.slice (some ⟨lg, 0, none⟩) N N, by rw [HLM.out]; rfl, by rw [HLM.out]; simpa using HFIN.out, (hf1.call hf2).call hfr⟩
  · have hne : ((orderM n l).2 != 0) = true := by simp [hb]
    have hlm : levelsM n l = ([], (orderM n l).2) := by
      unfold levelsM
      rw [if_neg hb]
    have HM1 := hide hlm
    clear hlm hb hown
    generalize (orderM n l).2 = x at hne HM1 ⊢
    go_wp2
    go_ret2
    exact ⟨.slice none 0 0, by rw [HM1.out]; rfl, by rw [HM1.out]; exact own_nil _ _ _ _, hf1⟩
end Go.Proofs.Ytnfhiadhpbojkaa

