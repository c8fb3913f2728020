/- The law DepgraphOrderIsTopological, walked. -/
import Derived.Test.YtnfhiadhpbojkaaGraL2
namespace Go.Proofs.Ytnfhiadhpbojkaa
open Go.RowKit

theorem greedyF_nth {n : Nat} {L : List (Nat × Nat)} : ∀ (f : Nat) (o : List Nat), (∀ (i v : Nat), o[i]? = some v → pick n L (o.take i) = some v) → ∀ (i v : Nat), (greedyF n L f o)[i]? = some v → pick n L ((greedyF n L f o).take i) = some v
  | 0, o, h => h
  | f + 1, o, h => by
    unfold greedyF
    split
    · rename_i q hq
      refine greedyF_nth f _ (fun i v hi => ?_)
      by_cases hil : i < o.length
      · rw [List.getElem?_append_left hil] at hi
        rw [List.take_append_of_le_length (by omega)]
        exact h i v hi
      · have hio : i = o.length := by
          have := (List.getElem?_eq_some_iff.1 hi).1
          simp at this
          omega
        subst hio
        simp at hi
        subst hi
        rw [List.take_left' rfl]
        exact hq
    · exact h
theorem greedy_nth {n : Nat} {L : List (Nat × Nat)} {i v : Nat} (h : (greedy n L)[i]? = some v) : pick n L ((greedy n L).take i) = some v := greedyF_nth n [] (by simp) i v h
theorem graph_order (n : Int) (raw : List (Int × Int)) : orderM (gNodes n : Int) (ofNs (graphM n raw true)) = (greedy (gNodes n) (graphM n raw true), 0) ∧ (greedy (gNodes n) (graphM n raw true)).length = gNodes n := by
  have hok := graphM_ok n raw true
  have hN := gNodes_lt n
  obtain ⟨h1, h2, h3⟩ := hok.links (by omega)
  have hful : (greedy (gNodes n) (graphM n raw true)).length = gNodes n := (greedy_full hok.lt).2 hok.acyc
  have := orderM_ok h3 (by rw [toNs_ofNs]; exact hful)
  rw [toNs_ofNs] at this
  exact ⟨this, hful⟩
def TopRel (w1 : World) (dg N : Nat) (o : List Nat) (m : Nat) (i : Value) (wr : World) : Prop :=
  ∃ k : Nat, k ≤ N ∧ i = .int .i64 k ∧ FA wr dg 4 bv N (fun u => decide (u ∈ o.take k)) ∧ Fr [] w1 wr ∧ m = N - k

set_option maxHeartbeats 4000000 in
set_option maxRecDepth 100000 in
theorem topological_walk (n : Int) (A : Option Addr) (cp : Nat) (raw : List (Int × Int)) (w : World) (hr : Row w A (pcs raw)) (hm : raw.length ≤ maxLen) :
    Calls Try.prog 4 #[.int .i64 n, .slice A raw.length cp] w fun e w' => e = .returned (.bool true) ∧ Fr [] w w' := by
  unfold maxLen at hm
  have HR := hide hr
  clear hr
  by_cases h40 : 40 < raw.length
  · have hb : decide ((40 : Int) < (raw.length : Int)) = true := by simp; omega
    go_enter Try.func4, Try.ntmps4
    go_wp2_with fail
    refine (awake24_any w).mono ?_
    rintro e w1 ⟨rfl, hfr⟩
    go_wp2
    go_ret
    exact ⟨rfl, hfr⟩
  · have hb : decide ((40 : Int) < (raw.length : Int)) = false := by simp; omega
    have h40' : raw.length ≤ 40 := by omega
    clear h40 hm
    go_enter Try.func4, Try.ntmps4
    go_wp2_with fail
    refine (graph_any n A cp raw true w HR.out (by omega)).mono ?_
    rintro e w1 ⟨v1, rfl, hown1, hf1⟩
    obtain ⟨A1, c1, rfl, -, hrow1, -⟩ := own_slice hown1
    have hgo := graph_order n raw
    have hlt := (graphM_ok n raw true).lt
    have hgl := (graphM_ok n raw true).len
    have hN := gNodes_lt n
    have hnth : ∀ i v, (greedy (gNodes n) (graphM n raw true))[i]? = some v → pick (gNodes n) (graphM n raw true) ((greedy (gNodes n) (graphM n raw true)).take i) = some v := fun i v h => greedy_nth h
    generalize graphM n raw true = L at hgo hlt hgl hrow1 hnth ⊢
    generalize gNodes n = N at hgo hlt hN hnth ⊢
    obtain ⟨hom, hful⟩ := hgo
    have HG := hide hrow1
    have HLT := hide hlt
    have hll : (ofNs L).length = L.length := ofNs_length L
    clear hrow1 hown1 hlt
    have hord := order_any24 (N : Int) A1 c1 (ofNs L) w1 HG.out (by omega)
    rw [hll] at hord
    go_wp2_with fail
    refine hord.mono ?_
    rintro e w2 ⟨v2, rfl, hown2, hf2⟩
    rw [hom] at hown2 ⊢
    simp only at hown2 ⊢
    obtain ⟨o, ho⟩ : ∃ o, o = greedy N L := ⟨_, rfl⟩
    rw [← ho] at hown2 hful hnth
    obtain ⟨A2, c2, rfl, -, hrow2, -⟩ := own_slice hown2
    have HO := hide hrow2
    have HG2 := hide (HG.out.fr0 hf2)
    have hw2 := hf1.call hf2
    have HNTH := hide hnth
    have hlen : ((o.length : Int) != (N : Int)) = false := by simp [hful]
    have hmk := make_bools N N (Nat.le_refl _) (by omega)
    have hnew := FA.new w2 4 bv false N
    have hfr3 : Fr [] w2 (w2.alloc (.cells (Array.replicate N (.bool false)) 4)) := (Fr.refl _ _).alloc _
    have HFUL := hide hful
    have hol : o.length ≤ 128 := by omega
    clear hrow2 hown2 HG hom hord ho hnth hful hll
    go_wp2
    generalize (w2.alloc (.cells (Array.replicate N (.bool false)) 4)) = w3 at hnew hfr3 ⊢
    obtain ⟨dg, hdg⟩ : ∃ dg, dg = w2.heap.size := ⟨_, rfl⟩
    have hdw : w2.heap.size ≤ dg := by omega
    rw [← hdg] at hnew ⊢
    clear hdg hmk
    go_loopg [10] N (fun m i wr => TopRel w2 dg N o m i wr)
    case atStart => exact ⟨0, by omega, rfl, hnew.congr (fun u _ => by simp), hfr3, rfl⟩
    case round =>
      clear hnew hfr3
      obtain ⟨k, hk, rfl, hfa, hfr, hmm⟩ := hrel
      have HM := hide hmm
      have HFA := hide hfa
      clear hmm hfa
      by_cases hlt : k < N
      · have hkl : (k : Int) < (N : Int) := by omega
        obtain ⟨q, hq⟩ : ∃ q, o[k]? = some q := ⟨_, List.getElem?_eq_getElem (by rw [HFUL.out]; exact hlt)⟩
        have HPK := hide (HNTH.out k q hq)
        have HQ := hide hq
        have HTK := hide (take_succ_some hq)
        clear hq
        generalize o.take k = t at HFA HPK HTK
        obtain ⟨wo, rfl⟩ : ∃ wo : World, wo = wr := ⟨_, rfl⟩
        go_wp2
        go_loopg [11, 12] N (fun m v8 v9 wr => MidRel N L t wo m v8 v9 wr)
        case atStart => exact ⟨N, -1, by omega, rfl, rfl, .inl ⟨rfl, fun u h1 h2 => by omega⟩, Fr.refl _ _, rfl⟩
        case round =>
          obtain ⟨j, x, hj, rfl, rfl, hnx, hfm, hmm⟩ := hrel
          have HNX := hide hnx
          have HM2 := hide hmm
          clear hnx hmm
          by_cases hj0 : 0 < j
          · obtain ⟨i, rfl⟩ : ∃ i, j = i + 1 := ⟨j - 1, by omega⟩
            rw [show ((i + 1 : Nat) : Int) - 1 = (i : Int) by omega]
            have hc1 := (HFA.out.fr0 hfm).cell (i := i) (by omega)
            have hin : (i : Int) < (N : Int) := by omega
            go_wp2
            go_loopg [13, 14] L.length (fun m v10 v11 wr => InRel L t wo i m v10 v11 wr)
            case atStart => exact ⟨0, by omega, by rw [List.take_zero, rdyB_nil], rfl, hfm, rfl⟩
            case round =>
              clear hfm hc1
              obtain ⟨s, hs, rfl, rfl, hfi, hmm⟩ := hrel
              have HM3 := hide hmm
              clear hmm
              by_cases hls : s < L.length
              · obtain ⟨p, hp⟩ : ∃ p, L[s]? = some p := ⟨_, List.getElem?_eq_getElem hls⟩
                obtain ⟨ob, oo, e, c1, c2⟩ := (HG2.out.fr0 (hfr.call hfi)).link (ofNs_get hp)
                subst e
                have hpl := HLT.out p (List.mem_of_getElem? hp)
                have hsn := rdyB_snoc (L.take s) t i p
                rw [← take_succ_some hp] at hsn
                clear hp
                have hsl : (s : Int) < (L.length : Int) := by omega
                obtain ⟨c, z⟩ := p
                simp only [ofN] at c1 c2
                simp only at hpl hsn
                have hcs := (HFA.out.fr0 hfi).cell (i := z) (by omega)
                have hzi : (z : Int) < (N : Int) := by omega
                cases hfree : rdyB (L.take s) t i with
                | false =>
                  rw [hfree] at hsn
                  have HSN := hide hsn
                  clear hsn hfree
                  go_wp2
                  go_roundg (L.length - (s + 1))
                  case measure => rw [HM3.out]; omega
                  case rel => exact ⟨s + 1, by omega, by rw [HSN.out]; rfl, by go_num, hfi, rfl⟩
                | true =>
                  rw [hfree] at hsn
                  clear hfree
                  by_cases e : c = i
                  · have eb : ((c : Int) != (i : Int)) = false := by simp [e]
                    cases hso : decide (z ∈ t) with
                    | false =>
                      rw [hso] at hcs hsn
                      have HSN : Hid (rdyB (L.take (s + 1)) t i = false) := hide (by rw [hsn]; simp [e])
                      clear hsn e hso
                      go_wp2
                      go_roundg (L.length - (s + 1))
                      case measure => rw [HM3.out]; omega
                      case rel => exact ⟨s + 1, by omega, by rw [HSN.out], by go_num, hfi, rfl⟩
                    | true =>
                      rw [hso] at hcs hsn
                      have HSN : Hid (rdyB (L.take (s + 1)) t i = true) := hide (by rw [hsn]; simp)
                      clear hsn e hso
                      go_wp2
                      go_roundg (L.length - (s + 1))
                      case measure => rw [HM3.out]; omega
                      case rel => exact ⟨s + 1, by omega, by rw [HSN.out], by go_num, hfi, rfl⟩
                  · have eb : ((c : Int) != (i : Int)) = true := by simp; omega
                    have HSN : Hid (rdyB (L.take (s + 1)) t i = true) := hide (by rw [hsn]; simp [e])
                    clear hsn e
                    go_wp2
                    go_roundg (L.length - (s + 1))
                    case measure => rw [HM3.out]; omega
                    case rel => exact ⟨s + 1, by omega, by rw [HSN.out], by go_num, hfi, rfl⟩
              · have hsl : ¬ (s : Int) < (L.length : Int) := by omega
                rw [List.take_of_length_le (by omega)]
                cases hfree : rdyB L t i with
                | false =>
                  have HFIN := hide (of_decide_eq_false hfree)
                  clear hfree
                  go_wp2
                  go_roundg i
                  case measure => rw [HM2.out]; omega
                  case rel =>
                    refine ⟨i, x, by omega, rfl, rfl, ?_, hfi, rfl⟩
                    rcases HNX.out with ⟨e, h⟩ | ⟨v, e, h1, h2, h3, h4⟩
                    · refine .inl ⟨e, fun u hu1 hu2 => ?_⟩
                      by_cases hui : u = i
                      · rw [hui]; exact HFIN.out
                      · exact h u (by omega) hu2
                    · refine .inr ⟨v, e, by omega, h2, h3, fun u hu1 hu2 => ?_⟩
                      by_cases hui : u = i
                      · rw [hui]; exact HFIN.out
                      · exact h4 u (by omega) hu2
                | true =>
                  have HRD := hide (of_decide_eq_true hfree)
                  clear hfree
                  go_wp2
                  go_roundg i
                  case measure => rw [HM2.out]; omega
                  case rel => exact ⟨i, i, by omega, rfl, rfl, .inr ⟨i, rfl, by omega, by omega, HRD.out, fun u h1 h2 => by omega⟩, hfi, rfl⟩
          · obtain rfl : j = 0 := by omega
            have hj1 : ((0 : Nat) : Int) - 1 = -1 := by omega
            rw [hj1]
            obtain ⟨hqN, hqr, hqm⟩ := pick_some.1 HPK.out
            have hxq : x = q := by
              rcases HNX.out with ⟨_, hno⟩ | ⟨v, e, _, hvn, hvr, hvm⟩
              · exact absurd hqr (hno q (by omega) hqN)
              · rw [e]
                rcases Nat.lt_trichotomy v q with h | h | h
                · exact absurd hvr (hqm v h)
                · rw [h]
                · exact absurd hqr (hvm q (by omega) h)
            subst hxq
            clear hqr hqm
            obtain ⟨ob, oo, e, c1⟩ := (HO.out.fr0 (hfr.call hfm)).at_ (i := k) (u := nv q) (by rw [List.getElem?_map, HQ.out]; rfl)
            subst e
            have hkl2 : (k : Int) < (o.length : Int) := by rw [HFUL.out]; omega
            have hc1 := (HFA.out.fr0 hfm).cell hqN
            have hc2 := (HFA.out.fr0 hfm).frozen q
            have hqi : (q : Int) < (N : Int) := by omega
            have hqq : ((q : Int) != (q : Int)) = false := by simp
            go_wp2
            go_roundg (N - (k + 1))
            case measure => rw [HM.out]; omega
            case rel =>
              refine ⟨k + 1, by omega, by go_num, ((HFA.out.fr0 hfm).set_ q true).congr (fun u _ => ?_), (hfr.call hfm).set (.inr hdw) _, rfl⟩
              rw [HTK.out]
              by_cases e : u = q <;> simp [e]
      · have hkl : ¬ (k : Int) < (N : Int) := by omega
        go_wp2_with fail
        refine (awake24_any _).mono ?_
        rintro e w8 ⟨rfl, hf8⟩
        go_wp2
        go_ret
        exact ⟨rfl, (hw2.call hfr).call hf8⟩
end Go.Proofs.Ytnfhiadhpbojkaa
