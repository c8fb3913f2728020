/- Walks over the reference of layer 24: Cycle. -/
import Derived.Test.YtnfhiadhpbojkaaGraR2Mg
import Derived.Test.YtnfhiadhpbojkaaGraW5Mg
namespace Go.Proofs.Ytnfhiadhpbojkaa
open Go.RowKit

theorem left_full {n : Nat} {L : List (Nat × Nat)} : firstLeft n (greedy n L) = none ↔ (greedy n L).length = n := by
  have hok := greedy_ok n L
  rw [firstLeft_none]
  constructor
  · intro h
    have h1 := hok.length_le
    have : (List.range n).length ≤ (greedy n L).length := (List.nodup_range).length_le_of_subset (fun v hv => h v (List.mem_range.1 hv))
    simp at this
    omega
  · exact fun h v hv => mem_of_full hok.lt hok.nodup h hv
theorem idxOf_of {l : List Nat} {v j : Nat} (h : l[j]? = some v) (hn : v ∉ l.take j) : l.idxOf v = j := by
  have hm : v ∈ l := List.mem_of_getElem? h
  have hl := List.idxOf_lt_length_of_mem hm
  rcases Nat.lt_trichotomy (l.idxOf v) j with h1 | h1 | h1
  · exfalso
    apply hn
    rw [List.mem_iff_getElem?]
    exact ⟨l.idxOf v, by rw [List.getElem?_take, if_pos h1, List.getElem?_eq_getElem hl, List.getElem_idxOf hl]⟩
  · exact h1
  · have h3 := List.not_of_lt_findIdx (p := (· == v)) (xs := l) (i := j) h1
    have hj : j < l.length := by omega
    rw [List.getElem?_eq_getElem hj] at h
    injection h with h
    simp [h] at h3
def AtRel (w1 : World) (v0 : Nat) (m : Nat) (i : Value) (wr : World) : Prop := ∃ k : Nat, k ≤ v0 ∧ i = .int .i64 k ∧ w1 = wr ∧ m = v0 - k
def ScRel (w1 : World) (wk : List Nat) (v : Nat) (m : Nat) (i : Value) (wr : World) : Prop := ∃ k : Nat, k ≤ wk.length ∧ i = .int .i64 k ∧ v ∉ wk.take k ∧ w1 = wr ∧ m = wk.length - k
def NxRel (w1 : World) (N : Nat) (L : List (Nat × Nat)) (o : List Nat) (v : Nat) (m : Nat) (x i : Value) (wr : World) : Prop := ∃ k : Nat, k ≤ L.length ∧ i = .int .i64 k ∧ x = .int .i64 (nxI (N : Int) (L.take k) o v) ∧ w1 = wr ∧ m = L.length - k
theorem nxI_range {N : Nat} {o : List Nat} {v : Nat} : ∀ (n : Nat) (K : List (Nat × Nat)), K.length = n → (∀ p ∈ K, p.2 < N) → 0 ≤ nxI (N : Int) K o v ∧ nxI (N : Int) K o v ≤ N
  | 0, K, hn, _ => by
    have : K = [] := List.eq_nil_of_length_eq_zero hn
    subst this
    simp [nxI]
  | n + 1, K, hn, hs => by
    obtain ⟨J, p, rfl⟩ : ∃ J p, K = J ++ [p] := ⟨K.dropLast, K.getLast (by intro e; subst e; cases hn), (List.dropLast_concat_getLast _).symm⟩
    have ih := nxI_range (N := N) (o := o) (v := v) n J (by simp at hn; exact hn) (fun q hq => hs q (List.mem_append_left _ hq))
    have hp := hs p (by simp)
    rw [nxI_snoc]
    unfold nxS
    split
    · omega
    · exact ih

set_option maxHeartbeats 8000000 in
set_option maxRecDepth 100000 in
theorem rcycle_any24 (n : Int) (A : Option Addr) (cp : Nat) (l : List (Int × Int)) (w : World) (hr : Row w A (pcs l)) (hm : l.length ≤ 4096) :
    Calls Try.prog 21 #[.int .i64 n, .slice A l.length cp] w (CycRet w n l) := by
  obtain ⟨i0, hi0, hz0, hz1, hz2⟩ := info_parts int_info1
  have HI := hide (And.intro hi0 (And.intro hz0 (And.intro hz1 hz2)))
  have HR := hide hr
  clear hr hi0 hz0 hz1 hz2
  go_enter Try.func21, Try.ntmps21
  go_wp2_with fail
  refine (rbasic_any n A cp l w HR.out hm).mono ?_
  rintro e w1 ⟨rfl, hf1⟩
  by_cases hb : basicM n l = 0
  · obtain ⟨hok, hnd⟩ := basicM_zero hb
    obtain ⟨N, rfl⟩ := Int.eq_ofNat_of_zero_le hok.1
    rw [hb]
    have HB := hide hb
    have hN : N ≤ 128 := by have := hok.2.1; omega
    have hl1 : l.length ≤ 1024 := hok.2.2.1
    have HOK := hide hok
    have HLT := hide (toNs_lt hok.2.2.2)
    clear hb hok hnd
    go_wp2_with fail
    refine (rremove_any N A cp l w1 (HR.out.fr0 hf1) HOK.out).mono ?_
    rintro e w2 ⟨v2, gg, rfl, hown, hfa, hgg, hf2⟩
    obtain ⟨L, hL⟩ : ∃ L, L = toNs l := ⟨_, rfl⟩
    have hLl : L.length = l.length := by rw [hL]; simp [toNs]
    rw [← hL] at hown hfa HLT
    obtain ⟨A2, c2, rfl, -, -, -⟩ := own_slice hown
    have hgl := (greedy_ok N L).length_le
    have HFA := hide hfa
    have HL := hide hL
    have HLL := hide hLl
    have hfw := hf1.call hf2
    clear hown hfa hL hLl
    cases hfl : firstLeft N (greedy N L) with
    | none =>
      have hful := left_full.1 hfl
      rw [HL.out] at hfl
      have HM1 := hide (cycleM_none HB.out hfl)
      have he : (((greedy N L).length : Int) == (N : Int)) = true := by simp [hful]
      clear hfl hful
      go_wp2
      go_ret2
      exact ⟨.slice none 0 0, by rw [HM1.out]; rfl, by rw [HM1.out]; exact own_nil _ _ _ _, hfw⟩
    | some v0 =>
      obtain ⟨hv0, hvn, hvm⟩ := firstLeft_some.1 hfl
      have hnf : ¬ (greedy N L).length = N := fun h => by rw [left_full.2 h] at hfl; cases hfl
      rw [HL.out] at hfl
      have HM1 := hide (cycleM_some HB.out hfl)
      rw [← HL.out] at HM1
      have he : (((greedy N L).length : Int) == (N : Int)) = false := by simp; omega
      have HNX := hide (fun v hv hg => nx_next hN HLT.out (v := v) hv hg)
      have HNO := hide (fun v hv hg => nx_other hN HLT.out (v := v) hv hg)
      obtain ⟨o, ho⟩ : ∃ o, o = greedy N L := ⟨_, rfl⟩
      rw [← ho] at hvn hvm HM1 HFA he HNX HNO hgl ⊢
      have HVN := hide hvn
      have HVM := hide hvm
      clear hfl hnf ho hvn hvm
      go_wp2
      go_loopg [9] v0 (fun m i wr => AtRel w2 v0 m i wr)
      case atStart => exact ⟨0, by omega, rfl, rfl, rfl⟩
      case round =>
        obtain ⟨k, hk, rfl, rfl, hmm⟩ := hrel
        have HM := hide hmm
        clear hmm
        have hc1 := HFA.out.cell (i := k) (by omega)
        have hkl : (k : Int) < (N : Int) := by omega
        by_cases hlt : k < v0
        · rw [decide_eq_true (HVM.out k hlt)] at hc1
          go_wp2
          go_roundg (v0 - (k + 1))
          case measure => rw [HM.out]; omega
          case rel => exact ⟨k + 1, by omega, by go_num, rfl, rfl⟩
        · obtain rfl : k = v0 := by omega
          rw [decide_eq_false HVN.out] at hc1
          clear HM
          go_wp2
          go_loopg [9, 10] N (fun m s9 s10 wr => CyRel4 w2 w2.heap.size N L o k m s9 s10 wr)
          case atStart => exact ⟨[], k, rfl, hv0, HVN.out, by simp, by simp, own_nil _ _ _ _, Fr.refl _ _, by simp, by simp⟩
          case round =>
            clear hc1
            obtain ⟨wk, v, rfl, hvN, hvo, hwk, hwn, hown, hfc, hcy, hmm⟩ := hrel
            have hwl := nodup_length_le hwk hwn
            obtain ⟨A5, c5, rfl, -, hrw5, -⟩ := own_slice hown
            have HM := hide hmm
            have HVO := hide hvo
            have HWK := hide hwk
            have HWN := hide hwn
            have HOWN := hide hown
            have HCY := hide hcy
            have HR5 := hide hrw5
            clear hmm hvo hwk hwn hown hcy hrw5
            obtain ⟨wo, rfl⟩ : ∃ wo : World, wo = wr := ⟨_, rfl⟩
            go_wp2
            go_loopg [11] wk.length (fun m i wr => ScRel wo wk v m i wr)
            case atStart => exact ⟨0, by omega, rfl, by simp, rfl, rfl⟩
            case round =>
              obtain ⟨j, hj, rfl, hnj, rfl, hmm⟩ := hrel
              have HM2 := hide hmm
              have HNJ := hide hnj
              clear hmm hnj
              by_cases hlt2 : j < wk.length
              · obtain ⟨u, hu⟩ : ∃ u, wk[j]? = some u := ⟨_, List.getElem?_eq_getElem hlt2⟩
                obtain ⟨ob, oo, e, c1⟩ := HR5.out.at_ (i := j) (u := nv u) (by simp [hu])
                have hA5 := e
                have hjl : (j : Int) < (wk.length : Int) := by omega
                by_cases huv : u = v
                · subst huv
                  have hix := idxOf_of hu HNJ.out
                  have hmem : u ∈ wk := List.mem_of_getElem? hu
                  have hcF : cycF (nx L o) (N + 1) [] k = wk.drop j := by
                    rw [← HCY.out, show N + 1 - wk.length = (N - wk.length) + 1 by omega, cycF, if_pos hmem, hix]
                  obtain ⟨e5, hcap⟩ : oo = 0 ∧ wk.length ≤ c5 := by
                    rcases HOWN.out.2 with ⟨-, h0⟩ | ⟨g5, cap, cur, hv, -, -, hnc, -⟩
                    · omega
                    · injection hv with h1 _ h3
                      rw [e] at h1
                      injection h1 with h1
                      injection h1 with _ h1 _
                      exact ⟨h1, by omega⟩
                  subst e5
                  have hrd : Row wo (some ⟨ob, j, none⟩) ((wk.drop j).map nv) := fun hl => by
                    refine ⟨ob, j, rfl, fun i z hz => ?_⟩
                    have h1 : (wk.map nv)[j + i]? = some z := by rw [← hz]; simp [List.getElem?_drop]
                    obtain ⟨ob', oo', e', hc⟩ := HR5.out.at_ h1
                    rw [e] at e'
                    cases e'
                    simpa using hc
                  have HRD := hide hrd
                  have HCF := hide hcF
                  have eb : ((u : Int) == (u : Int)) = true := by simp
                  have hq1 : (j : Int) ≤ (wk.length : Int) := by omega
                  have hq2 : (wk.length : Int) ≤ (c5 : Int) := by omega
                  have hq3 : ¬ c5 = j := by omega
                  have hq4 : (j : Int) ≤ (c5 : Int) := by omega
                  have hsz : w.heap.size ≤ wo.heap.size := Nat.le_trans hfw.size hfc.size
                  clear hrd hcF hix hmem hu e
                  subst hA5
                  rw [Nat.zero_add] at c1
                  go_wp2_with (first
                    | (at_builtin
                       refine wpList_append_row _ rfl (.tmp 48) (.tmp 51) _ rfl wo.heap.size 3 i0 (.int .i64 0) 1 8 Try.underlying26 HI.out.1 HI.out.2.1 HI.out.2.2.1 HI.out.2.2.2 rfl (by omega) (.slice (some ⟨wo.heap.size, 0, none⟩) 0 0) 0 [] rfl
                         (own_new wo (cs := #[]) (Nat.le_refl _) (by simp) (Nat.le_refl _) (by simp [maxLen])) (some ⟨ob, j, none⟩) (wk.length - j) (c5 - j) ((wk.drop j).map nv) rfl (by simp) (HRD.out.fr0 ((Fr.refl _ _).alloc _)) (by intro u hu; obtain ⟨d, _, rfl⟩ := List.mem_map.1 hu; rfl) (by simp only [maxLen]; omega) (by omega) (by simp) ?_
                       intro v1 w9 hown9 hg9 hat9))
                  go_ret2
                  obtain ⟨A9, c9, rfl, -, -, -⟩ := own_slice hown9
                  have hf9 : Fr [] wo w9 := ((Fr.refl [] wo).alloc _).grown hg9 (fun y hy => .inr (by have : wo.heap.size = y := (by simpa [Value.ownBlock] using hy); omega))
                  refine ⟨.slice A9 (0 + (wk.length - j)) c9, by rw [HM1.out]; rfl, ?_, (hfw.call hfc).call hf9⟩
                  rw [HM1.out, HCF.out, List.length_drop]
                  have := own_base hown9 hsz
                  simpa using this
                · have eb : ((u : Int) == (v : Int)) = false := by simp; omega
                  have HU := hide (take_succ_some hu)
                  subst hA5
                  clear hu e
                  go_wp2
                  go_roundg (wk.length - (j + 1))
                  case measure => rw [HM2.out]; omega
                  case rel =>
                    refine ⟨j + 1, by omega, by go_num, ?_, rfl, rfl⟩
                    rw [HU.out]
                    intro h
                    rcases List.mem_append.1 h with h | h
                    · exact HNJ.out h
                    · exact huv (List.mem_singleton.1 h).symm
              · have hjl : ¬ (j : Int) < (wk.length : Int) := by omega
                have hin := HNJ.out
                rw [List.take_of_length_le (by omega)] at hin
                have HIN := hide hin
                clear hin HNJ HM2
                obtain ⟨hn1, hn2, hn3, hn4⟩ := HNX.out v hvN HVO.out
                have hno := HNO.out v hvN HVO.out
                have hcF : cycF (nx L o) (N + 1 - wk.length) wk v = cycF (nx L o) (N + 1 - (wk.length + 1)) (wk ++ [v]) (nx L o v) := by
                  rw [show N + 1 - wk.length = (N - wk.length) + 1 by omega, cycF, if_neg HIN.out, show N + 1 - (wk.length + 1) = N - wk.length by omega]
                have hwn2 : (wk ++ [v]).Nodup := by
                  rw [List.nodup_append]
                  exact ⟨HWN.out, by simp, fun a ha b hb => by rw [List.mem_singleton.1 hb]; rintro rfl; exact HIN.out ha⟩
                have hwk2 : ∀ u ∈ wk ++ [v], u < N := fun u hu => by
                  rcases List.mem_append.1 hu with h | h
                  · exact HWK.out u h
                  · rw [List.mem_singleton.1 h]; exact hvN
                have hwl2 := nodup_length_le hwk2 hwn2
                rw [List.length_append, List.length_singleton] at hwl2
                have HN4 := hide hn4
                have HCF := hide hcF
                have HW2 := hide hwk2
                have HD2 := hide hwn2
                have HNOV := hide hno
                clear hn1 hn2 hn4 hcF hwk2 hwn2 hno
                have hsz : w2.heap.size ≤ wo.heap.size + 1 := by have := hfc.size; omega
                go_upto_region 17 with (first
                  | (at_builtin
                     refine wpList_append_row _ rfl (.tmp 53) (.tmp 55) _ rfl w2.heap.size 3 i0 (.int .i64 0) 1 8 Try.underlying26 HI.out.1 HI.out.2.1 HI.out.2.2.1 HI.out.2.2.2 rfl (by omega) (.slice A5 wk.length c5) wk.length (wk.map nv) rfl
                       (own_fr HOWN.out ((Fr.refl [] _).alloc _) (fun _ _ => by simp)) (some ⟨wo.heap.size, 0, none⟩) 1 1 [.int .i64 (v : Int)] rfl rfl (row_one wo _ _) (by intro u hu; simp at hu; subst hu; rfl) (by simp only [maxLen]; omega) (by omega) (by simpa using hsz) ?_
                     intro v1 w9 hown9 hg9 hat9))
                have hf9 : Fr [] w2 w9 := (hfc.alloc _).grown hg9 (fun y hy => .inr (own_block HOWN.out hy).1)
                obtain ⟨A9, c9, rfl, -, -, -⟩ := own_slice hown9
                have HOWN9 := hide hown9
                clear hg9 hat9 hown9
                go_wp2
                go_loopg [12, 13] L.length (fun m x i wr => NxRel w9 N L o v m x i wr)
                case atStart => exact ⟨0, by omega, rfl, rfl, rfl, rfl⟩
                case round =>
                  obtain ⟨t, ht, rfl, rfl, rfl, hmm⟩ := hrel
                  have HM3 := hide hmm
                  clear hmm
                  by_cases hlt3 : t < l.length
                  · obtain ⟨p, hp⟩ : ∃ p, l[t]? = some p := ⟨_, List.getElem?_eq_getElem hlt3⟩
                    obtain ⟨ob, oo, e, c1, c2⟩ := (HR.out.fr0 (hfw.call hf9)).link hp
                    subst e
                    have hpo := HOK.out.2.2.2 p (List.mem_of_getElem? hp)
                    have hLk : L[t]? = some (toN p) := by rw [HL.out]; simp [toNs, hp]
                    have hsn := nxI_snoc (N : Int) (L.take t) o v (toN p)
                    rw [← take_succ_some hLk] at hsn
                    have hrg := nxI_range (N := N) (o := o) (v := v) _ (L.take t) rfl (fun q hq => (HLT.out q (List.mem_of_mem_take hq)).2)
                    clear hp hLk
                    have htl : (t : Int) < (l.length : Int) := by omega
                    obtain ⟨c, s⟩ := p
                    simp only at c1 c2
                    unfold LinkOk at hpo
                    simp only at hpo
                    obtain ⟨q1, q2, q3, q4⟩ := hpo
                    obtain ⟨c, rfl⟩ := Int.eq_ofNat_of_zero_le q1
                    obtain ⟨s, rfl⟩ := Int.eq_ofNat_of_zero_le q3
                    have hcs := (HFA.out.fr0 hf9).cell (i := s) (by omega)
                    generalize nxI (N : Int) (L.take t) o v = x at hsn hrg ⊢
                    have hsn2 : nxI (N : Int) (L.take (t + 1)) o v = if c = v ∧ s ∉ o ∧ (x = N ∨ (s : Int) < x) then (s : Int) else x := hsn
                    clear hsn
                    have hway : (¬ c = v ∧ nxI (N : Int) (L.take (t + 1)) o v = x ∧ ((c : Int) == (v : Int)) = false) ∨ (s ∈ o ∧ nxI (N : Int) (L.take (t + 1)) o v = x ∧ ((c : Int) == (v : Int)) = true) ∨
                        (s ∉ o ∧ x ≤ (s : Int) ∧ nxI (N : Int) (L.take (t + 1)) o v = x ∧ ((c : Int) == (v : Int)) = true) ∨ (s ∉ o ∧ (s : Int) < x ∧ nxI (N : Int) (L.take (t + 1)) o v = s ∧ ((c : Int) == (v : Int)) = true) := by
                      by_cases h1 : c = v
                      · have hb1 : ((c : Int) == (v : Int)) = true := by simp [h1]
                        by_cases h2 : s ∈ o
                        · exact .inr (.inl ⟨h2, by rw [hsn2, if_neg (fun h => h.2.1 h2)], hb1⟩)
                        · by_cases h3 : (s : Int) < x
                          · exact .inr (.inr (.inr ⟨h2, h3, by rw [hsn2, if_pos ⟨h1, h2, .inr h3⟩], hb1⟩))
                          · refine .inr (.inr (.inl ⟨h2, by omega, ?_, hb1⟩))
                            rw [hsn2, if_neg]
                            rintro ⟨-, -, h | h⟩
                            · omega
                            · exact h3 h
                      · exact .inl ⟨h1, by rw [hsn2, if_neg (fun h => h1 h.1)], by simp; omega⟩
                    clear hsn2
                    rcases hway with ⟨-, hn, hb⟩ | ⟨hso, hn, hb⟩ | ⟨hso, hx, hn, hb⟩ | ⟨hso, hx, hn, hb⟩
                    · have HN := hide hn
                      clear hn
                      go_wp2
                      go_roundg (L.length - (t + 1))
                      case measure => rw [HM3.out, HLL.out]; omega
                      case rel => exact ⟨t + 1, by rw [HLL.out]; omega, by go_num, by rw [HN.out], rfl, rfl⟩
                    · have HN := hide hn
                      rw [decide_eq_true hso] at hcs
                      clear hn hso
                      go_wp2
                      go_roundg (L.length - (t + 1))
                      case measure => rw [HM3.out, HLL.out]; omega
                      case rel => exact ⟨t + 1, by rw [HLL.out]; omega, by go_num, by rw [HN.out], rfl, rfl⟩
                    · have HN := hide hn
                      rw [decide_eq_false hso] at hcs
                      clear hn hso
                      go_wp2
                      go_roundg (L.length - (t + 1))
                      case measure => rw [HM3.out, HLL.out]; omega
                      case rel => exact ⟨t + 1, by rw [HLL.out]; omega, by go_num, by rw [HN.out], rfl, rfl⟩
                    · have HN := hide hn
                      rw [decide_eq_false hso] at hcs
                      clear hn hso
                      go_wp2
                      go_roundg (L.length - (t + 1))
                      case measure => rw [HM3.out, HLL.out]; omega
                      case rel => exact ⟨t + 1, by rw [HLL.out]; omega, by go_num, by rw [HN.out], rfl, rfl⟩
                  · have htl : ¬ (t : Int) < (l.length : Int) := by omega
                    have hxx : nxI (N : Int) (L.take t) o v = (nx L o v : Int) := by
                      rw [List.take_of_length_le (by rw [HLL.out]; omega)]
                      exact HNOV.out
                    rw [hxx]
                    generalize nx L o v = u at hn3 HN4 HCF ⊢
                    clear hxx HNOV
                    go_wp2
                    go_roundg (N - (wk.length + 1))
                    case measure => rw [HM.out]; omega
                    case rel => exact ⟨wk ++ [v], u, rfl, hn3, HN4.out, HW2.out, HD2.out, by simpa using HOWN9.out, hf9, by rw [List.length_append, List.length_singleton, ← HCF.out]; exact HCY.out, by simp⟩
  · have hne : (basicM n l != 0) = true := by simp [hb]
    have HM1 := hide (cycleM_bad hb)
    clear hb
    go_wp2
    go_ret2
    exact ⟨.slice none 0 0, by rw [HM1.out]; rfl, by rw [HM1.out]; exact own_nil _ _ _ _, hf1⟩
end Go.Proofs.Ytnfhiadhpbojkaa

