/- The law DepgraphLevelsAgree, walked. -/
import Derived.Test.YtnfhiadhpbojkaaGraL1
import Derived.Test.YtnfhiadhpbojkaaGraR6
import Derived.Test.YtnfhiadhpbojkaaGraM7
namespace Go.Proofs.Ytnfhiadhpbojkaa
open Go.RowKit

/-- What the law asks of the levels La of a graph with the links L. -/
def LevOk (L : List (Nat × Nat)) (La : List Nat) : Prop := ∀ i x, La[i]? = some x → x ≤ 131072 ∧ (∀ s, (i, s) ∈ L → ∃ y, La[s]? = some y ∧ y < x) ∧ (x = 0 ∨ ∃ s y, (i, s) ∈ L ∧ La[s]? = some y ∧ x = y + 1)
theorem levelsM_len (n : Int) (l : List (Int × Int)) : (levelsM n l).1.length ≤ 128 := by
  unfold levelsM
  split
  · rename_i h
    obtain ⟨N, rfl, hN, -⟩ := orderM_zero h
    simp
    omega
  · simp
theorem levelsM_ok {N : Nat} {L : List (Nat × Nat)} {l : List (Int × Int)} (hl : toNs l = L) : LevOk L (levelsM (N : Int) l).1 := by
  by_cases h : (orderM (N : Int) l).2 = 0
  · obtain ⟨M, hM, hN, hok, -, -, hful, hom⟩ := orderM_zero h
    have hNM : N = M := by omega
    subst hNM
    have hlm : levelsM (N : Int) l = ((List.range N).map (levs (toNs l) (greedy N (toNs l))), 0) := by
      unfold levelsM
      rw [if_pos h, hom, Int.toNat_natCast]
    rw [hlm]
    simp only
    have hlt := toNs_lt hok.2.2.2
    have hll : (toNs l).length ≤ 1024 := by have := hok.2.2.1; simp [toNs]; omega
    rw [hl] at hful hlt hll ⊢
    have hgo := greedy_ok N L
    have hget : ∀ s, s < N → ((List.range N).map (levs L (greedy N L)))[s]? = some (levs L (greedy N L) s) := fun s hs => by simp [hs]
    intro i x hi
    have hiN : i < N := by
      have := (List.getElem?_eq_some_iff.1 hi).1
      simpa using this
    rw [hget i hiN] at hi
    injection hi with hi
    subst hi
    obtain ⟨h1, h2⟩ := levs_spec hgo.nodup (greedy_prefix N L) (mem_of_full hgo.lt hgo.nodup hful hiN)
    refine ⟨levs_bound hll (by have := hgo.length_le; omega) i, fun s hs => ⟨_, hget s (hlt _ hs).2, h1 s hs⟩, ?_⟩
    rcases h2 with h2 | ⟨s, hs, h2⟩
    · exact .inl h2
    · exact .inr ⟨s, _, hs, hget s (hlt _ hs).2, h2⟩
  · unfold levelsM
    rw [if_neg h]
    intro i x hi
    simp at hi
def belB (La : List Nat) (x i : Nat) (K : List (Nat × Nat)) : Bool := decide (x = 0) || K.any (fun p => p.1 == i && ((La.getD p.2 0 : Nat) : Int) == (x : Int) - 1)
theorem belB_snoc (La : List Nat) (x i : Nat) (K : List (Nat × Nat)) (p : Nat × Nat) : belB La x i (K ++ [p]) = (belB La x i K || (p.1 == i && ((La.getD p.2 0 : Nat) : Int) == (x : Int) - 1)) := by
  simp [belB, Bool.or_assoc]
theorem belB_full {L : List (Nat × Nat)} {La : List Nat} {i x : Nat} (h : LevOk L La) (hi : La[i]? = some x) : belB La x i L = true := by
  obtain ⟨_, _, h3⟩ := h i x hi
  unfold belB
  rcases h3 with h3 | ⟨s, y, hs, hy, h3⟩
  · simp [h3]
  · rw [Bool.or_eq_true]
    right
    rw [List.any_eq_true]
    refine ⟨(i, s), hs, ?_⟩
    have : La.getD s 0 = y := by rw [List.getD_eq_getElem?_getD, hy]; rfl
    simp only [this]
    simp
    omega
def LvRelA (w1 : World) (n : Nat) (m : Nat) (i : Value) (wr : World) : Prop := ∃ k : Nat, k ≤ n ∧ i = .int .i64 k ∧ Fr [] w1 wr ∧ m = n - k
def LvRelB (w1 : World) (La : List Nat) (x i : Nat) (L : List (Nat × Nat)) (m : Nat) (b k : Value) (wr : World) : Prop := ∃ j : Nat, j ≤ L.length ∧ k = .int .i64 j ∧ b = .bool (belB La x i (L.take j)) ∧ Fr [] w1 wr ∧ m = L.length - j

set_option maxHeartbeats 4000000 in
set_option maxRecDepth 100000 in
theorem levelsAgree_walk (n : Int) (A : Option Addr) (cp : Nat) (raw : List (Int × Int)) (ac : Bool) (w : World) (hr : Row w A (pcs raw)) (hm : raw.length ≤ maxLen) :
    Calls Try.prog 7 #[.int .i64 n, .slice A raw.length cp, .bool ac] w fun e w' => e = .returned (.bool true) ∧ Fr [] w w' := by
  unfold maxLen at hm
  have HR := hide hr
  clear hr
  by_cases h40 : 40 < raw.length
  · have hb : decide ((40 : Int) < (raw.length : Int)) = true := by simp; omega
    go_enter Try.func7, Try.ntmps7
    go_wp2_with fail
    refine (awake24_any w).mono ?_
    rintro e w1 ⟨rfl, hfr⟩
    go_wp2
    go_ret
    exact ⟨rfl, hfr⟩
  · have hb : decide ((40 : Int) < (raw.length : Int)) = false := by simp; omega
    have h40' : raw.length ≤ 40 := by omega
    clear h40 hm
    go_enter Try.func7, Try.ntmps7
    go_wp2_with fail
    refine (graph_any n A cp raw ac w HR.out (by omega)).mono ?_
    rintro e w1 ⟨v1, rfl, hown1, hf1⟩
    obtain ⟨A1, c1, rfl, -, hrow1, -⟩ := own_slice hown1
    have hgl := (graphM_ok n raw ac).len
    have hlt := (graphM_ok n raw ac).lt
    have hN := gNodes_lt n
    have hlev := levelsM_ok (N := gNodes n) (toNs_ofNs (graphM n raw ac))
    have hlen := levelsM_len (gNodes n : Int) (ofNs (graphM n raw ac))
    generalize graphM n raw ac = L at hgl hlt hrow1 hlev hlen ⊢
    generalize gNodes n = N at hlt hN hlev hlen ⊢
    have hll : (ofNs L).length = L.length := ofNs_length L
    have HG := hide hrow1
    have HLT := hide hlt
    have HLEV := hide hlev
    clear hrow1 hown1 hlt hlev
    have hc1 := levels_any24 (N : Int) A1 c1 (ofNs L) w1 HG.out (by omega)
    rw [hll] at hc1
    go_wp2_with fail
    refine hc1.mono ?_
    rintro e w2 ⟨v2, rfl, hown2, hf2⟩
    obtain ⟨A2, c2, rfl, -, hrow2, -⟩ := own_slice hown2
    have H2 := hide hrow2
    have hw2 := hf1.call hf2
    clear hrow2 hown2 hc1
    have hc2 := rlevels_any24 (N : Int) A1 c1 (ofNs L) w2 (HG.out.fr0 hf2) (by omega)
    rw [hll] at hc2
    go_wp2_with fail
    refine hc2.mono ?_
    rintro e w3 ⟨v3, rfl, hown3, hf3⟩
    obtain ⟨A3, c3, rfl, -, hrow3, -⟩ := own_slice hown3
    have H3 := hide hrow3
    have hw3 := hw2.call hf3
    have h13 := hf2.trans hf3
    clear hrow3 hown3 hc2
    go_wp2_with fail
    refine (levels_any24 n A cp raw w3 (HR.out.fr0 hw3) (by omega)).mono ?_
    rintro e w4 ⟨v4, rfl, hown4, hf4⟩
    obtain ⟨A4, c4, rfl, -, -, -⟩ := own_slice hown4
    have hw4 := hw3.call hf4
    clear hown4
    go_wp2_with fail
    refine (rlevels_any24 n A cp raw w4 (HR.out.fr0 hw4) (by omega)).mono ?_
    rintro e w5 ⟨v5, rfl, hown5, hf5⟩
    obtain ⟨A5, c5, rfl, -, -, -⟩ := own_slice hown5
    have hw5 := hw4.call hf5
    have h35 := hf4.trans hf5
    have H25 := hide ((H2.out.fr0 hf3).fr0 h35)
    have H35 := hide (H3.out.fr0 h35)
    have HG5 := hide ((HG.out.fr0 h13).fr0 h35)
    clear hown5 H2 H3 HG h13 h35 hf2 hf3 hf4 hf5
    generalize (levelsM n raw) = r1
    have e1 : (r1.2 != r1.2) = false := by simp
    generalize levelsM (N : Int) (ofNs L) = r2 at hlen HLEV H25 H35 ⊢
    have e2 : (r2.2 != r2.2) = false := by simp
    obtain ⟨La, er⟩ := r2
    simp only at hlen HLEV H25 H35 e2 ⊢
    go_wp2_with fail
    refine (equalNats_any A2 A3 c2 c3 La La w5 H25.out H35.out (by omega) (by omega)).mono ?_
    rintro e w6 ⟨rfl, hf6⟩
    rw [decide_eq_true rfl]
    have hw6 := hw5.call hf6
    have H26 := hide (H25.out.fr0 hf6)
    have HG6 := hide (HG5.out.fr0 hf6)
    clear H25 H35 HG5 hw5 hf6
    go_wp2
    go_loopg [17] La.length (fun m i wr => LvRelA w6 La.length m i wr)
    case atStart => exact ⟨0, by omega, rfl, Fr.refl _ _, rfl⟩
    case round =>
      obtain ⟨k, hk, rfl, hfr, hmm⟩ := hrel
      have HM := hide hmm
      clear hmm
      by_cases hlt : k < La.length
      · obtain ⟨x, hx⟩ : ∃ x, La[k]? = some x := ⟨_, List.getElem?_eq_getElem hlt⟩
        have hkl : (k : Int) < (La.length : Int) := by omega
        obtain ⟨hxb, hsup, -⟩ := HLEV.out k x hx
        have hful := belB_full HLEV.out hx
        have HX := hide hx
        have HFU := hide hful
        have HSUP := hide hsup
        obtain ⟨ob, oo, e, c1'⟩ := (H26.out.fr0 hfr).at_ (i := k) (u := nv x) (by simp [hx])
        subst e
        have hx0 : ((x : Int) == 0) = decide (x = 0) := by
          rw [Bool.eq_iff_iff]
          simp
        clear hx hful hsup
        obtain ⟨wo, rfl⟩ : ∃ wo : World, wo = wr := ⟨_, rfl⟩
        go_wp2
        clear hx0
        go_loopg [18, 19] L.length (fun m b i wr => LvRelB w6 La x k L m b i wr)
        case atStart => exact ⟨0, by omega, rfl, by simp [belB], hfr, rfl⟩
        case round =>
          clear hfr c1'
          obtain ⟨j, hj, rfl, rfl, hfi, hmm⟩ := hrel
          have HM2 := hide hmm
          clear hmm
          by_cases hlt2 : j < L.length
          · obtain ⟨p, hp⟩ : ∃ p, L[j]? = some p := ⟨_, List.getElem?_eq_getElem hlt2⟩
            obtain ⟨ob2, oo2, e, d1, d2⟩ := (HG6.out.fr0 hfi).link (ofNs_get hp)
            subst e
            obtain ⟨_, _, e, c1'⟩ := (H26.out.fr0 hfi).at_ (i := k) (u := nv x) (by rw [List.getElem?_map, HX.out]; rfl)
            cases e
            have hsn := belB_snoc La x k (L.take j) p
            rw [← take_succ_some hp] at hsn
            have hpm : p ∈ L := List.mem_of_getElem? hp
            have hjl : (j : Int) < (L.length : Int) := by omega
            clear hp
            obtain ⟨c, s⟩ := p
            simp only [ofN] at d1 d2
            simp only at hsn
            by_cases hck : c = k
            · subst hck
              obtain ⟨y, hy, hyx⟩ := HSUP.out s hpm
              have hsl : s < La.length := (List.getElem?_eq_some_iff.1 hy).1
              obtain ⟨_, _, e, c2'⟩ := (H26.out.fr0 hfi).at_ (i := s) (u := nv y) (by rw [List.getElem?_map, hy]; rfl)
              cases e
              have hgd : La.getD s 0 = y := by rw [List.getD_eq_getElem?_getD, hy]; rfl
              rw [hgd] at hsn
              have hsl2 : (s : Int) < (La.length : Int) := by omega
              have eb : ((c : Int) == (c : Int)) = true := by simp
              have hge : decide ((x : Int) ≤ (y : Int)) = false := by simp; omega
              have hge2 : ¬ (x : Int) ≤ (y : Int) := by omega
              clear hpm hy hgd
              cases hbl : belB La x c (L.take j) with
              | true =>
                rw [hbl] at hsn
                have HSN : Hid (belB La x c (L.take (j + 1)) = true) := hide (by rw [hsn]; simp)
                clear hsn hbl
                go_wp2
                go_quiet (fail)
                go_wp2
                go_quiet (fail)
                go_wp2
                go_roundg (L.length - (j + 1))
                case measure => rw [HM2.out]; omega
                case rel => exact ⟨j + 1, by omega, by go_num, by rw [HSN.out], hfi.drewN _, rfl⟩
              | false =>
                rw [hbl] at hsn
                have hw1 : IntKind.i64.wrap ((x : Int) - 1) = (x : Int) - 1 := IntWalk.i64_in _ (by omega)
                cases hyx1 : ((y : Int) == (x : Int) - 1) with
                | true =>
                  have HSN : Hid (belB La x c (L.take (j + 1)) = true) := hide (by rw [hsn, hyx1]; simp)
                  clear hsn hbl
                  go_wp2
                  go_quiet (fail)
                  go_wp2
                  go_quiet (fail)
                  go_wp2
                  go_roundg (L.length - (j + 1))
                  case measure => rw [HM2.out]; omega
                  case rel => exact ⟨j + 1, by omega, by go_num, by rw [HSN.out], hfi.drewN _, rfl⟩
                | false =>
                  have HSN : Hid (belB La x c (L.take (j + 1)) = false) := hide (by rw [hsn, hyx1]; simp)
                  clear hsn hbl
                  go_wp2
                  go_quiet (fail)
                  go_wp2
                  go_quiet (fail)
                  go_wp2
                  go_roundg (L.length - (j + 1))
                  case measure => rw [HM2.out]; omega
                  case rel => exact ⟨j + 1, by omega, by go_num, by rw [HSN.out], hfi.drewN _, rfl⟩
            · have eb : ((c : Int) == (k : Int)) = false := by simp; omega
              have hcb : (c == k) = false := by simp [hck]
              have HSN : Hid (belB La x k (L.take (j + 1)) = belB La x k (L.take j)) := hide (by rw [hsn, hcb]; simp)
              clear hsn hpm hcb
              generalize belB La x k (L.take j) = bb at HSN ⊢
              go_wp2
              go_roundg (L.length - (j + 1))
              case measure => rw [HM2.out]; omega
              case rel => exact ⟨j + 1, by omega, by go_num, by rw [HSN.out], hfi, rfl⟩
          · have hjl : ¬ (j : Int) < (L.length : Int) := by omega
            rw [List.take_of_length_le (by omega), HFU.out]
            go_wp2
            go_roundg (La.length - (k + 1))
            case measure => rw [HM.out]; omega
            case rel => exact ⟨k + 1, by omega, by go_num, hfi, rfl⟩
      · have hkl : ¬ (k : Int) < (La.length : Int) := by omega
        go_wp2_with fail
        refine (awake24_any _).mono ?_
        rintro e w8 ⟨rfl, hf8⟩
        go_wp2
        go_ret
        exact ⟨rfl, (hw6.call hfr).call hf8⟩
end Go.Proofs.Ytnfhiadhpbojkaa
