/- Walks: the scheduler's methods ended, free, ready. -/
import Derived.Test.YtinengemeppefaaSchMemMg
import Derived.WalkMore
namespace Go.Proofs.Ytinengemeppefaa
open Go.RowKit

set_option maxHeartbeats 1000000 in
theorem ended31_any {w : World} {base b N W : Nat} {L : List (Nat × Nat)} {D : Nat → Nat} {p : St} (h : SchAt w base b N W L p) (hi : InvS N L D W p) {d : Nat} (hd : d < N) :
    Calls Try.prog 43 #[.pointer (some ⟨b, 0, none⟩), nv d] w fun e w' => e = .returned (.bool (endedB p.sl p.now d)) ∧ Fr [] w w' := by
  obtain ⟨g0, g1, g2, g3, v, h⟩ := h
  have c1 : w.cell? ⟨b, 1, none⟩ = some (.slice (some ⟨g1, 0, none⟩) N N) := h.blk.cell 1
  have c2 : w.cell? ⟨b, 2, none⟩ = some (.slice (some ⟨g2, 0, none⟩) N N) := h.blk.cell 2
  have c4 : w.cell? ⟨b, 4, none⟩ = some (.int .u64 (p.now : Int)) := h.blk.cell 4
  have d1 : w.cell? ⟨g1, d, none⟩ = some (.bool (started p.sl d)) := h.st.cell hd
  have d2 : w.cell? ⟨g2, d, none⟩ = some (.int .u64 (endOf p.sl d : Int)) := h.en.cell hd
  have k1 : (d : Int) < (N : Int) := by omega
  rw [hi.ended d]
  clear h hi
  generalize endOf p.sl d = t at d2 ⊢
  generalize p.now = now at c4 ⊢
  cases hs : started p.sl d with
  | false =>
    rw [hs] at d1
    clear hs
    go_enter Try.func43, Try.ntmps43
    go_wp2
    go_quiet (fail)
    go_wp2
    go_ret
    exact ⟨rfl, (Fr.refl _ _).drewN _⟩
  | true =>
    rw [hs] at d1
    clear hs
    go_enter Try.func43, Try.ntmps43
    go_wp2
    go_quiet (fail)
    go_wp2
    go_ret
    exact ⟨ret_bool (by simp), (Fr.refl _ _).drewN _⟩

/-- An index, or -1. -/
def optI (o : Option Nat) : Int := match o with | some n => (n : Int) | none => -1
def FreRel (w : World) (p : St) (W m : Nat) (i : Value) (wr : World) : Prop := ∃ k : Nat, k ≤ W ∧ i = .int .i64 k ∧ (∀ u, u < k → freB p u = false) ∧ Fr [] w wr ∧ m = W - k
set_option maxHeartbeats 1000000 in
theorem free31_any {w : World} {base b N W : Nat} {L : List (Nat × Nat)} {D : Nat → Nat} {p : St} (h : SchAt w base b N W L p) (hi : InvS N L D W p) (hW : W ≤ 16) :
    Calls Try.prog 30 #[.pointer (some ⟨b, 0, none⟩)] w fun e w' => e = .returned (.int .i64 (optI (fre W p))) ∧ Fr [] w w' := by
  obtain ⟨g0, g1, g2, g3, v, h⟩ := h
  have c3 : w.cell? ⟨b, 3, none⟩ = some (.slice (some ⟨g3, 0, none⟩) W W) := h.blk.cell 3
  have c4 : w.cell? ⟨b, 4, none⟩ = some (uv p.now) := h.blk.cell 4
  have HB := hide h.bz
  have HF := hide hi.free
  clear h hi
  have C3 := hide c3
  have C4 := hide c4
  go_enter Try.func30, Try.ntmps30
  go_wp2
  clear c3 c4
  go_loopg [10] W (fun m i wr => FreRel w p W m i wr)
  case atStart => exact ⟨0, by omega, rfl, fun u hu => by omega, Fr.refl _ _, rfl⟩
  case round =>
    obtain ⟨k, hk, rfl, hno, hfr, hmm⟩ := hrel
    have HM := hide hmm
    have HNO := hide hno
    clear hmm hno
    by_cases hlt : k < W
    · have hkl : (k : Int) < (W : Int) := by omega
      have c4 := hfr.cell C4.out (by simp)
      have d1 := (HB.out.fr0 hfr).cell hlt
      have hfk := HF.out k
      generalize busyOf p.sl k = t at d1 hfk
      by_cases hle : t ≤ p.now
      · rw [decide_eq_true hle] at hfk
        have hle' : (t : Int) ≤ (p.now : Int) := by omega
        have HFK := hide hfk
        clear hfk hle
        go_wp2
        go_ret
        refine ⟨ret_int ?_, hfr⟩
        rw [fre_some.2 ⟨hlt, HFK.out, HNO.out⟩]
        rfl
      · rw [decide_eq_false hle] at hfk
        have hle' : ¬ (t : Int) ≤ (p.now : Int) := by omega
        have HFK := hide hfk
        clear hfk hle
        go_wp2
        go_roundg (W - (k + 1))
        case measure => rw [HM.out]; omega
        case rel =>
          refine ⟨k + 1, by omega, by go_num, fun u hu => ?_, hfr, rfl⟩
          by_cases e : u = k
          · rw [e]; exact HFK.out
          · exact HNO.out u (by omega)
    · have hkl : ¬ (k : Int) < (W : Int) := by omega
      go_wp2
      go_ret
      refine ⟨ret_int ?_, hfr⟩
      rw [fre_none.2 (fun u hu => HNO.out u (by omega))]
      rfl

def RdyRel (w : World) (p : St) (L : List (Nat × Nat)) (N m : Nat) (i : Value) (wr : World) : Prop := ∃ k : Nat, k ≤ N ∧ i = .int .i64 k ∧ (∀ u, u < k → rdyB L p u = false) ∧ Fr [] w wr ∧ m = N - k
def RdyRel2 (w : World) (p : St) (C : List Nat) (m : Nat) (i : Value) (wr : World) : Prop := ∃ j : Nat, j ≤ C.length ∧ i = .int .i64 j ∧ (∀ s ∈ C.take j, endedB p.sl p.now s = true) ∧ Fr [] w wr ∧ m = C.length - j
theorem rdyB_nb (L : List (Nat × Nat)) (p : St) (d : Nat) : rdyB L p d = true ↔ started p.sl d = false ∧ ∀ s ∈ nb false L d, endedB p.sl p.now s = true := by
  rw [rdyB_iff]
  refine and_congr ?_ ?_
  · rw [← Bool.not_eq_true, started_iff]
    exact ⟨fun h ⟨x, hx, e⟩ => h x hx e, fun h x hx e => h ⟨x, hx, e⟩⟩
  · constructor
    · exact fun h s hs => ended_iff.2 (h (d, s) (mem_nb.1 hs) rfl)
    · rintro h ⟨a, s⟩ hq rfl
      exact ended_iff.1 (h s (mem_nb.2 hq))
set_option maxHeartbeats 2000000 in
theorem ready31_any {w : World} {base b N W : Nat} {L : List (Nat × Nat)} {D : Nat → Nat} {p : St} (h : SchAt w base b N W L p) (hi : InvS N L D W p) (hN : N ≤ 128) (hL : ∀ q ∈ L, q.1 < N ∧ q.2 < N) (hll : L.length ≤ 1024) :
    Calls Try.prog 29 #[.pointer (some ⟨b, 0, none⟩)] w fun e w' => e = .returned (.int .i64 (optI (rdy N L p))) ∧ Fr [] w w' := by
  have HAT := hide h
  obtain ⟨g0, g1, g2, g3, v, h⟩ := h
  have c0 : w.cell? ⟨b, 0, none⟩ = some (.slice (some ⟨g0, 0, none⟩) N N) := h.blk.cell 0
  have c1 : w.cell? ⟨b, 1, none⟩ = some (.slice (some ⟨g1, 0, none⟩) N N) := h.blk.cell 1
  have HS := hide h.st
  have HLS := hide h.sup
  have HI := hide hi
  have HL := hide hL
  have C0 := hide c0
  clear h hi c0 hL
  go_enter Try.func29, Try.ntmps29
  go_wp2
  go_step3
  go_wp2
  go_step3
  go_wp2
  clear c1
  go_loopg [12] N (fun m i wr => RdyRel w p L N m i wr)
  case atStart => exact ⟨0, by omega, rfl, fun u hu => by omega, Fr.refl _ _, rfl⟩
  case round =>
    obtain ⟨k, hk, rfl, hno, hfr, hmm⟩ := hrel
    have HM := hide hmm
    have HNO := hide hno
    clear hmm hno
    by_cases hlt : k < N
    · have hkl : (k : Int) < (N : Int) := by omega
      have c0 := hfr.cell C0.out (by simp)
      have d1 := (HS.out.fr0 hfr).cell hlt
      have hrb := rdyB_nb L p k
      cases hs : started p.sl k with
      | true =>
        rw [hs] at d1 hrb
        have hfk : rdyB L p k = false := by
          rw [← Bool.not_eq_true, hrb]
          exact fun h => by cases h.1
        have HFK := hide hfk
        clear hrb hfk hs c0
        go_wp2
        go_roundg (N - (k + 1))
        case measure => rw [HM.out]; omega
        case rel =>
          refine ⟨k + 1, by omega, by go_num, fun u hu => ?_, hfr, rfl⟩
          by_cases e : u = k
          · rw [e]; exact HFK.out
          · exact HNO.out u (by omega)
      | false =>
        rw [hs] at d1 hrb
        have hnl := nb_length_le false L k
        obtain ⟨v2, hcv, -, hown, -, -⟩ := (HLS.out.fr0 hfr).at_ (nbs_get false L hlt)
        obtain ⟨A2, c2, rfl, -, hrow, -⟩ := own_slice hown
        have HRB := hide hrb
        have HRW := hide hrow
        have hCN : ∀ s ∈ nb false L k, s < N := fun s hs => (HL.out _ (mem_nb.1 hs)).2
        have HCN := hide hCN
        clear hrb hown hrow hs hCN
        generalize nb false L k = C at hnl HRB HRW HCN hcv
        go_wp2
        clear hcv d1 c0
        go_loopg [26] C.length (fun m i wi => RdyRel2 wr p C m i wi)
        case atStart => exact ⟨0, by omega, rfl, by simp, Fr.refl _ _, rfl⟩
        case round =>
          rename_i wr0
          obtain ⟨j, hj, rfl, hall, hfr2, hmm⟩ := hrel
          have HM2 := hide hmm
          have HALL := hide hall
          clear hmm hall
          by_cases hlt2 : j < C.length
          · obtain ⟨s, hs⟩ : ∃ s, C[j]? = some s := ⟨_, List.getElem?_eq_getElem hlt2⟩
            obtain ⟨ob, oo, rfl, e1⟩ := (HRW.out.fr0 hfr2).at_ (i := j) (u := nv s) (by rw [List.getElem?_map, hs]; rfl)
            have hjl : (j : Int) < (C.length : Int) := by omega
            have hsN := HCN.out s (List.mem_of_getElem? hs)
            have HSS := hide hs
            clear hs
            go_wp2_with fail
            refine (ended31_any ((HAT.out.fr0 hfr).fr0 hfr2) HI.out hsN).mono ?_
            rintro e w3 ⟨rfl, hf3⟩
            cases hend : endedB p.sl p.now s with
            | true =>
              have HE := hide hend
              clear hend
              go_wp2
              go_roundg (C.length - (j + 1))
              case measure => rw [HM2.out]; omega
              case rel =>
                refine ⟨j + 1, by omega, by go_num, fun u hu => ?_, hfr2.call hf3, rfl⟩
                rw [take_succ_some HSS.out] at hu
                rcases List.mem_append.1 hu with h | h
                · exact HALL.out u h
                · rw [List.mem_singleton.1 h]; exact HE.out
            | false =>
              have hfk : rdyB L p k = false := by
                rw [← Bool.not_eq_true, HRB.out]
                intro h
                have := h.2 s (List.mem_of_getElem? HSS.out)
                rw [hend] at this
                cases this
              have HFK := hide hfk
              clear hend hfk
              go_wp2
              go_roundg (N - (k + 1))
              case measure => rw [HM.out]; omega
              case rel =>
                refine ⟨k + 1, by omega, by go_num, fun u hu => ?_, (hfr.call hfr2).call hf3, rfl⟩
                by_cases e : u = k
                · rw [e]; exact HFK.out
                · exact HNO.out u (by omega)
          · have hjl : ¬ (j : Int) < (C.length : Int) := by omega
            go_wp2
            first | (rw [Exit.noGoto_ret]; go_ret) | go_ret
            refine ⟨ret_int ?_, hfr.call hfr2⟩
            have hall := HALL.out
            rw [List.take_of_length_le (by omega)] at hall
            rw [rdy_some.2 ⟨hlt, HRB.out.2 ⟨by simp, hall⟩, HNO.out⟩]
            rfl
    · have hkl : ¬ (k : Int) < (N : Int) := by omega
      go_wp2
      first | (rw [Exit.noGoto_ret]; go_ret) | go_ret
      refine ⟨ret_int ?_, hfr⟩
      rw [rdy_none.2 (fun u hu => HNO.out u (by omega))]
      rfl
end Go.Proofs.Ytinengemeppefaa

