/- The law DepgraphReversal, walked. (Written by a program.) -/
import Derived.Test.YtnfhiadhpbojkaaMgDepgraphReversal14
import Derived.Test.YtnfhiadhpbojkaaGraL6Mg
import Derived.Test.YtnfhiadhpbojkaaTailT
namespace Go.Proofs.Ytnfhiadhpbojkaa
open Go.RowKit

def RvRel (w1 : World) (L : List (Nat × Nat)) (m : Nat) (v i : Value) (wr : World) : Prop :=
  ∃ k : Nat, k ≤ L.length ∧ i = .int .i64 (k : Int) ∧ wr.ownsRow w1.heap.size 34 2 v k (pcs (ofNs (swp (L.take k)))) ∧ Fr [] w1 wr ∧ m = L.length - k
def RvS (w1 : World) (N : Nat) (of : List Int) (m : Nat) (v i : Value) (wr : World) : Prop :=
  ∃ k : Nat, k ≤ of.length ∧ (N = 0 → k = 0) ∧ i = .int .i64 k ∧ wr.ownsRow w1.heap.size 3 1 v k ((someM N (of.take k)).map (Value.int .i64)) ∧ Fr [] w1 wr ∧ m = of.length - k
def Rv3 (w8 : World) (n m : Nat) (i : Value) (wr : World) : Prop := ∃ k : Nat, k ≤ n ∧ i = .int .i64 k ∧ Fr [] w8 wr ∧ m = n - k
theorem swp_snoc (L : List (Nat × Nat)) (p : Nat × Nat) : swp (L ++ [p]) = swp L ++ [(p.2, p.1)] := by simp [swp]
theorem redM_lenN (N : Nat) (l : List (Int × Int)) : (redM (N : Int) l).1.length ≤ N * N := by
  rw [← rredM_eq]
  unfold rredM
  by_cases h : checkM (N : Int) l = 0
  · rw [if_pos h, Int.toNat_natCast]
    exact refTo_len N (toNs l) N
  · rw [if_neg h]
    exact Nat.zero_le _
theorem someM_in {N : Nat} (h0 : 0 < N) (of : List Int) : ∀ x ∈ someM N of, 0 ≤ x ∧ x < (N : Int) := fun x hx => by
  obtain ⟨y, -, rfl⟩ := List.mem_map.1 hx
  have := umod_lt y h0
  exact ⟨by omega, by omega⟩
set_option maxHeartbeats 8000000 in
set_option maxRecDepth 100000 in
theorem reversal_walk (n : Int) (A B : Option Addr) (cp cq : Nat) (raw : List (Int × Int)) (of : List Int) (ac : Bool) (w : World) (hr : Row w A (pcs raw)) (hb : Row w B (of.map (Value.int .i64))) (hm : raw.length ≤ maxLen) (ho : of.length ≤ maxLen) :
    Calls Try.prog 14 #[.int .i64 n, .slice A raw.length cp, .slice B of.length cq, .bool ac] w fun e w' => e = .returned (.bool true) ∧ Fr [] w w' := by
  unfold maxLen at hm ho
  obtain ⟨i0, hi0, hz0, hz1, hz2⟩ := info_parts link_info2
  have HI0 := hide (And.intro hi0 (And.intro hz0 (And.intro hz1 hz2)))
  clear hi0 hz0 hz1 hz2
  obtain ⟨i1, hi0, hz0, hz1, hz2⟩ := info_parts int_info1
  have HI := hide (And.intro hi0 (And.intro hz0 (And.intro hz1 hz2)))
  have HR := hide hr
  have HB := hide hb
  clear hr hb hi0 hz0 hz1 hz2
  by_cases h40 : 40 < raw.length ∨ 10 < of.length
  · have hb : (decide ((40 : Int) < (raw.length : Int)) = true) ∨ (decide ((40 : Int) < (raw.length : Int)) = false ∧ decide ((10 : Int) < (of.length : Int)) = true) := by simp; omega
    clear h40
    rcases hb with hb | ⟨hb, hb2⟩
    all_goals
      go_enter Try.func14, Try.ntmps14
      go_wp2_with fail
      refine (awake24_any w).mono ?_
      rintro e w1 ⟨rfl, hfr⟩
      go_wp2
      go_ret
      exact ⟨rfl, hfr⟩
  · have hb : decide ((40 : Int) < (raw.length : Int)) = false := by simp; omega
    have hb2 : decide ((10 : Int) < (of.length : Int)) = false := by simp; omega
    have h40' : raw.length ≤ 40 := by omega
    have h20' : of.length ≤ 10 := by omega
    clear h40 hm ho
    go_enter Try.func14, Try.ntmps14
    go_wp2_with fail
    refine (graph_any n A cp raw ac w HR.out (by omega)).mono ?_
    rintro e w1 ⟨v1, rfl, hown1, hf1⟩
    obtain ⟨A1, c1, rfl, -, hrow1, -⟩ := own_slice hown1
    have HGO := hide (graphM_ok n raw ac)
    have HGL := hide ((graphM_ok n raw ac).links (by have := gNodes_lt n; omega))
    have hgl := (graphM_ok n raw ac).len
    have hN := gNodes_lt n
    generalize graphM n raw ac = L at hgl hrow1 HGO HGL ⊢
    generalize gNodes n = N at hN HGO HGL ⊢
    generalize umod n 13 = sh at HGO
    have hll : (ofNs L).length = L.length := ofNs_length L
    have hgl' : (ofNs L).length ≤ 40 := by omega
    have HG := hide hrow1
    have HLT : Hid (∀ p ∈ L, p.1 < N ∧ p.2 < N) := hide (by have := toNs_lt HGL.out.1.2.2.2; rwa [toNs_ofNs] at this)
    have HND : Hid L.Nodup := hide (by have := toNs_nodup HGL.out.1.2.2.2 HGL.out.2.1; rwa [toNs_ofNs] at this)
    have HB1 : Hid (basicM (N : Int) (ofNs L) = 0) := hide (basicM_ok HGL.out.1 HGL.out.2.1)
    have HB2 : Hid (basicM (N : Int) (ofNs (swp L)) = 0) := hide (by
      refine basicM_ok ⟨by omega, by omega, by rw [ofNs_length]; unfold swp; rw [List.length_map]; omega, fun p hp => ?_⟩ (ofNs_nodup (swp_nodup HND.out))
      obtain ⟨q, hq, rfl⟩ := List.mem_map.1 hp
      have := swp_lt HLT.out q hq
      exact ⟨Int.natCast_nonneg _, by show ((q.1 : Nat) : Int) < N; omega, Int.natCast_nonneg _, by show ((q.2 : Nat) : Int) < N; omega⟩)
    have HA1 : Hid (0 < L.length → ∀ ad, A1 = some ad → ad.block < w1.heap.size) := hide (fun h0 ad e => by
      obtain ⟨ob, oo, e2, h3⟩ := HG.out.lt (by rw [pcs_length, hll]; omega)
      rw [e2] at e
      injection e with e
      rw [← e]
      exact h3)
    clear hrow1 hown1 HGO HGL
    go_wp2
    go_loopg [11, 12] L.length (fun m v i wr => RvRel w1 L m v i wr)
    case atStart => exact ⟨0, by omega, rfl, own_nil _ _ _ _, Fr.refl _ _, rfl⟩
    case round =>
      obtain ⟨k, hk, rfl, hown, hfr, hmm⟩ := hrel
      obtain ⟨AS, cs, rfl, -, -, -⟩ := own_slice hown
      have HM := hide hmm
      have HOWN := hide hown
      clear hmm hown
      by_cases hlt : k < L.length
      · obtain ⟨p, hp⟩ : ∃ p, L[k]? = some p := ⟨_, List.getElem?_eq_getElem hlt⟩
        have hkl : (k : Int) < (L.length : Int) := by omega
        obtain ⟨ob, oo, rfl, c0, c1'⟩ := (HG.out.fr0 hfr).link (ofNs_get hp)
        have hobl := HA1.out (by omega) _ rfl
        have HT := hide (take_succ_some hp)
        obtain ⟨pa, pb⟩ := p
        have d0 : wr.cell? ⟨ob, oo + k * 2, none⟩ = some (.int .i64 (pa : Int)) := c0
        have d1 : wr.cell? ⟨ob, oo + k * 2 + 1, none⟩ = some (.int .i64 (pb : Int)) := c1'
        have hwz := hfr.size
        clear hp c0 c1'
        generalize hqe : swp (L.take k) = Q at HOWN
        have HQ := hide hqe
        clear hqe
        · go_wp2
          refine wp_region_T (fun w' => w'.cell? ⟨ob, oo + k * 2, none⟩ = some (.int .i64 (pa : Int)) ∧ w'.cell? ⟨ob, oo + k * 2 + 1, none⟩ = some (.int .i64 (pb : Int))) 14 (by kernel_rfl) ?_
          have hS : (fun w' : World => w'.cell? ⟨ob, oo + k * 2, none⟩ = some (.int .i64 (pa : Int)) ∧ w'.cell? ⟨ob, oo + k * 2 + 1, none⟩ = some (.int .i64 (pb : Int))) { wr with drawn := wr.drawn + 1 } := ⟨d0, d1⟩
          refine wpAnyT_take (i := 0) (v := ?v0) rfl (by kernel_rfl) (by kernel_rfl) (fun _ _ _ h => h) (Or.inl ⟨by rfl, ?hy0⟩) hS ?rest0
          case hy0 =>
            intro wz hSw
            obtain ⟨s0, s1⟩ := hSw
            go_simp
            try rfl
          try simp only [Act.put, List.setIfInBounds_toArray, List.set_cons_zero, List.set_cons_succ, List.getElem_toArray, List.getElem_cons_zero]
          refine wpAnyT_take (i := 1) (v := ?v1) rfl (by kernel_rfl) (by kernel_rfl) (fun _ _ _ h => h) (Or.inl ⟨by rfl, ?hy1⟩) hS ?rest1
          case hy1 =>
            intro wz hSw
            obtain ⟨s0, s1⟩ := hSw
            go_simp
            try rfl
          try simp only [Act.put, List.setIfInBounds_toArray, List.set_cons_zero, List.set_cons_succ, List.getElem_toArray, List.getElem_cons_zero, List.getElem_cons_succ]
          refine wpAnyT_take (i := 2) (v := ?v2) rfl (by kernel_rfl) (by kernel_rfl) (fun _ _ _ h => h) (Or.inl ⟨by rfl, ?hy2⟩) hS ?rest2
          case hy2 =>
            intro wz hSw
            obtain ⟨s0, s1⟩ := hSw
            go_simp
            try rfl
          try simp only [Act.put, List.setIfInBounds_toArray, List.set_cons_zero, List.set_cons_succ, List.getElem_toArray, List.getElem_cons_zero, List.getElem_cons_succ]
          refine wpAnyT_take (i := 3) (v := ?v3) rfl (by kernel_rfl) (by kernel_rfl) (fun _ _ _ h => h) (Or.inl ⟨by rfl, ?hy3⟩) hS ?rest3
          case hy3 =>
            intro wz hSw
            obtain ⟨s0, s1⟩ := hSw
            go_simp
            try rfl
          try simp only [Act.put, List.setIfInBounds_toArray, List.set_cons_zero, List.set_cons_succ, List.getElem_toArray, List.getElem_cons_zero, List.getElem_cons_succ]
          refine wpAnyT_take (i := 4) (v := ?v4) rfl (by kernel_rfl) (by kernel_rfl) (fun _ _ _ h => h) (Or.inl ⟨by rfl, ?hy4⟩) hS ?rest4
          case hy4 =>
            intro wz hSw
            obtain ⟨s0, s1⟩ := hSw
            go_simp
            try rfl
          try simp only [Act.put, List.setIfInBounds_toArray, List.set_cons_zero, List.set_cons_succ, List.getElem_toArray, List.getElem_cons_zero, List.getElem_cons_succ]
          refine wpAnyT_take (i := 5) (v := ?v5) rfl (by kernel_rfl) (by kernel_rfl) (fun _ _ _ h => h) (Or.inl ⟨by rfl, ?hy5⟩) hS ?rest5
          case hy5 =>
            intro wz hSw
            obtain ⟨s0, s1⟩ := hSw
            go_simp
            try rfl
          try simp only [Act.put, List.setIfInBounds_toArray, List.set_cons_zero, List.set_cons_succ, List.getElem_toArray, List.getElem_cons_zero, List.getElem_cons_succ]
          refine wpAnyT_take (i := 6) (v := ?v6) rfl (by kernel_rfl) (by kernel_rfl) (fun _ _ _ h => h) (Or.inl ⟨by rfl, ?hy6⟩) hS ?rest6
          case hy6 =>
            intro wz hSw
            obtain ⟨s0, s1⟩ := hSw
            go_simp
            try rfl
          try simp only [Act.put, List.setIfInBounds_toArray, List.set_cons_zero, List.set_cons_succ, List.getElem_toArray, List.getElem_cons_zero, List.getElem_cons_succ]
          refine wpAnyT_take (i := 7) (v := ?v7) rfl (by kernel_rfl) (by kernel_rfl) (fun _ _ _ h => h) (Or.inl ⟨by rfl, ?hy7⟩) hS ?rest7
          case hy7 =>
            intro wz hSw
            obtain ⟨s0, s1⟩ := hSw
            go_simp
            try rfl
          try simp only [Act.put, List.setIfInBounds_toArray, List.set_cons_zero, List.set_cons_succ, List.getElem_toArray, List.getElem_cons_zero, List.getElem_cons_succ]
          refine wpAnyT_take (i := 8) (v := ?v8) rfl (by kernel_rfl) (by kernel_rfl) (fun _ _ _ h => h) (Or.inl ⟨by rfl, ?hy8⟩) hS ?rest8
          case hy8 =>
            intro wz hSw
            obtain ⟨s0, s1⟩ := hSw
            go_simp
            try rfl
          try simp only [Act.put, List.setIfInBounds_toArray, List.set_cons_zero, List.set_cons_succ, List.getElem_toArray, List.getElem_cons_zero, List.getElem_cons_succ]
          refine wpAnyT_take (i := 9) (v := ?v9) rfl (by kernel_rfl) (by kernel_rfl) (fun _ _ _ h => h) (Or.inl ⟨by rfl, ?hy9⟩) hS ?rest9
          case hy9 =>
            intro wz hSw
            obtain ⟨s0, s1⟩ := hSw
            go_simp
            try rfl
          try simp only [Act.put, List.setIfInBounds_toArray, List.set_cons_zero, List.set_cons_succ, List.getElem_toArray, List.getElem_cons_zero, List.getElem_cons_succ]
          refine wpAnyT_take (i := 10) (v := ?v10) rfl (by kernel_rfl) (by kernel_rfl) (fun _ _ _ h => h) (Or.inl ⟨by rfl, ?hy10⟩) hS ?rest10
          case hy10 =>
            intro wz hSw
            obtain ⟨s0, s1⟩ := hSw
            go_simp
            try rfl
          try simp only [Act.put, List.setIfInBounds_toArray, List.set_cons_zero, List.set_cons_succ, List.getElem_toArray, List.getElem_cons_zero, List.getElem_cons_succ]
          refine wpAnyT_take (i := 11) (v := ?v11) rfl (by kernel_rfl) (by kernel_rfl) (fun _ _ _ h => h) (Or.inl ⟨by rfl, ?hy11⟩) hS ?rest11
          case hy11 =>
            intro wz hSw
            obtain ⟨s0, s1⟩ := hSw
            go_simp
            try rfl
          try simp only [Act.put, List.setIfInBounds_toArray, List.set_cons_zero, List.set_cons_succ, List.getElem_toArray, List.getElem_cons_zero, List.getElem_cons_succ]
          clear hS
          have hf67 : Fr [] wr ((wr.alloc (.cells #[.int .i64 (pb : Int), .int .i64 (pa : Int)] 34)).drew) := ((Fr.refl _ _).alloc _).drew
          refine wpAnyT_one (i := 12) (by kernel_rfl) rfl (by rfl) (fun K hK => ?_)
          go_simp
          refine hK _ _ (.inr ⟨hf67.cell d0 (by simp), hf67.cell d1 (by simp)⟩) ?_
          try simp only [Act.put, List.setIfInBounds_toArray, List.set_cons_zero, List.set_cons_succ, List.getElem_toArray, List.getElem_cons_zero, List.getElem_cons_succ]
          refine wpAnyT_one (i := 13) (by kernel_rfl) rfl (by rfl) (fun K2 hK2 => ?_)
          refine wp_append_row _ (.tmp 46) (.tmp 58) 22 (by rfl) w1.heap.size 34 i0 (.agg #[.int .i64 0, .int .i64 0]) 2 16 Try.underlying22 HI0.out.1 HI0.out.2.1 HI0.out.2.2.1 HI0.out.2.2.2 rfl (by omega) (.slice AS k cs) k (pcs (ofNs Q)) (by rfl) (own_fr HOWN.out hf67 (fun _ _ => by simp)) (some ⟨wr.heap.size, 0, none⟩) 1 1 [.int .i64 (pb : Int), .int .i64 (pa : Int)] (by rfl) rfl ((row_two2 wr _ _ _).fr0 (Fr.refl _ _).drew) (by intro u hu; simp at hu; rcases hu with rfl | rfl <;> rfl) (by simp only [maxLen]; omega) (by omega) (Nat.le_trans hwz hf67.size) ?_
          intro v7 w7 hown7 hg7 hat7
          obtain ⟨A6, c6, rfl, -, -, -⟩ := own_slice hown7
          have hf7 : Fr (Value.slice AS k cs).ownBlock.toList wr w7 := hf67.mono (fun _ _ h => by cases h) |>.trans (Fr.of_grown hg7)
          have hno : ob ∉ (Value.slice AS k cs).ownBlock.toList := fun hm => by
            have h1 := (own_block HOWN.out (show (Value.slice AS k cs).ownBlock = some ob by simpa using hm)).1
            have h2 : ob < w1.heap.size := hobl
            omega
          refine hK2 _ _ (.inr ⟨hf7.cell d0 hno, hf7.cell d1 hno⟩) ?_
          try simp only [Act.put, List.setIfInBounds_toArray, List.set_cons_zero, List.set_cons_succ, List.getElem_toArray, List.getElem_cons_zero, List.getElem_cons_succ]
          refine wpAnyT_one (i := 14) (by kernel_rfl) rfl (by rfl) (fun K3 hK3 => ?_)
          go_simp
          refine hK3 _ _ (.inl rfl) ?_
          try simp only [Act.put, List.setIfInBounds_toArray, List.set_cons_zero, List.set_cons_succ, List.getElem_toArray, List.getElem_cons_zero, List.getElem_cons_succ]
          refine wpAnyT_done (by kernel_rfl) ?_ _
          have hfin : Fr [] w1 w7 := hfr.step hf7 (fun y hy => .inr (own_block HOWN.out (by simpa using hy)).1)
          go_wp2
          go_roundg (L.length - (k + 1))
          case measure => rw [HM.out]; omega
          case rel =>
            refine ⟨k + 1, by omega, by go_num, ?_, hfin, rfl⟩
            rw [HT.out, swp_snoc, HQ.out, pcs_ofNs_snoc]
            exact hown7
      · have hkl : ¬ (k : Int) < (L.length : Int) := by omega
        obtain rfl : k = L.length := by omega
        rw [List.take_length] at HOWN
        obtain ⟨AR, cr, er, -, hrowR, -⟩ := own_slice HOWN.out
        obtain ⟨rfl, rfl⟩ : AS = AR ∧ cs = cr := by injection er with e1 e2 e3; exact ⟨e1, e3⟩
        have HRV := hide hrowR
        have HG0 := hide (HG.out.fr0 hfr)
        have hwA := hf1.call hfr
        have hsl : (ofNs (swp L)).length = L.length := by rw [ofNs_length]; unfold swp; rw [List.length_map]
        clear er hrowR HOWN hfr HA1 HM hk hlt hkl HG
        obtain ⟨wa, rfl⟩ : ∃ wa : World, wa = wr := ⟨_, rfl⟩
        go_wp2
        go_loopg [13, 14] of.length (fun m v i wr => RvS wa N of m v i wr)
        case atStart => exact ⟨0, by omega, fun _ => rfl, rfl, own_nil _ _ _ _, Fr.refl _ _, rfl⟩
        case round =>
          obtain ⟨k, hk, hk0, rfl, hown, hfr, hmm⟩ := hrel
          obtain ⟨A3, c3, rfl, -, hrowS, -⟩ := own_slice hown
          have HM := hide hmm
          clear hmm
          by_cases hlt : k < of.length ∧ 0 < N
          · obtain ⟨hlt, hN0⟩ := hlt
            have hkl : (k : Int) < (of.length : Int) := by omega
            have hNI : (0 : Int) < (N : Int) := by omega
            obtain ⟨x, hx⟩ : ∃ x, of[k]? = some x := ⟨_, List.getElem?_eq_getElem hlt⟩
            obtain ⟨ob, oo, e, c1'⟩ := (HB.out.fr0 (hwA.call hfr)).int hx
            subst e
            have hsn : someM N (of.take (k + 1)) = someM N (of.take k) ++ [((umod x N : Nat) : Int)] := by rw [take_succ_some hx, someM_snoc]
            have HOWN := hide hown
            have HSN := hide hsn
            clear hx hown hsn hrowS
            go_wp2_with fail
            refine (mod_any x N _ hN0 (by omega)).mono ?_
            rintro e w2 ⟨rfl, rfl⟩
            generalize umod x N = y at HSN ⊢
            have hsz : wa.heap.size ≤ wr.heap.size + 1 := by have := hfr.size; omega
            go_wp2_with (first
              | (at_builtin
                 refine wpList_append_row _ rfl (.tmp 70) (.tmp 77) _ rfl wa.heap.size 3 i1 (.int .i64 0) 1 8 Try.underlying26 HI.out.1 HI.out.2.1 HI.out.2.2.1 HI.out.2.2.2 rfl (by omega) (.slice A3 k c3) k ((someM N (of.take k)).map (Value.int .i64)) rfl
                   (own_fr HOWN.out ((Fr.refl [] _).alloc _) (fun _ _ => by simp)) (some ⟨wr.heap.size, 0, none⟩) 1 1 [.int .i64 (y : Int)] rfl rfl (row_one wr _ _) (by intro u hu; simp at hu; subst hu; rfl) (by simp only [maxLen]; omega) (by omega) (by simpa using hsz) ?_
                 intro v9 w9 hown9 hg9 hat9))
            have hf9 : Fr [] wa w9 := (hfr.alloc _).grown hg9 (fun y hy => .inr (own_block HOWN.out hy).1)
            go_roundg (of.length - (k + 1))
            case measure => rw [HM.out]; omega
            case rel => exact ⟨k + 1, by omega, fun h => by omega, by go_num, by rw [HSN.out, List.map_append]; exact hown9, hf9, rfl⟩
          · obtain ⟨sm, hsm⟩ : ∃ sm, sm = someM N (of.take k) := ⟨_, rfl⟩
            have hsl2 : sm.length = k := by rw [hsm, someM_length, List.length_take]; omega
            rw [← hsm] at hrowS
            have hk20 : sm.length ≤ 10 := by omega
            have HS := hide hrowS
            have HIN : Hid (∀ x ∈ sm, 0 ≤ x ∧ x < (N : Int)) := hide (fun x hx => by
              by_cases h0 : 0 < N
              · rw [hsm] at hx
                exact someM_in h0 _ x hx
              · have hkz := hk0 (by omega)
                subst hkz
                rw [hsm] at hx
                cases hx)
            have hw2 := hwA.call hfr
            have HG2 := hide (HG0.out.fr0 hfr)
            have HV2 := hide (HRV.out.fr0 hfr)
            have HRC := hide (rev_clos HB1.out HB2.out HIN.out)
            have HREV := hide (rev_ok HLT.out HND.out HB1.out HB2.out)
            have hcl := closM_len false (N : Int) (ofNs L) sm
            have hrl := redM_lenN N (ofNs (swp L))
            have hnn : N * N ≤ 14 * 14 := Nat.mul_le_mul (by omega) (by omega)
            have hrl2 := redM_lenN N (ofNs L)
            have hx : (k : Int) = (of.length : Int) ∨ (N : Int) = 0 := by omega
            clear hown hrowS hsm HG0 HRV HM hlt hk0
            subst hsl2
            obtain ⟨w2, rfl⟩ : ∃ w2 : World, w2 = wr := ⟨_, rfl⟩
            have hw : (of.length : Int) ≤ (sm.length : Int) ∨ ((sm.length : Int) < (of.length : Int) ∧ (N : Int) ≤ 0) := by omega
            clear hx
            rcases hw with hw | ⟨hw, hw'⟩
            all_goals
              have hq := suppliers_any (N : Int) A1 A3 c1 c3 (ofNs L) sm w2 HG2.out HS.out (by omega) (by omega)
              rw [hll] at hq
              go_wp2_with fail
              refine hq.mono ?_
              clear hq
              rintro e w3 ⟨v3, rfl, hown3, hf3⟩
              obtain ⟨A4, c4, rfl, -, hrow4, -⟩ := own_slice hown3
              have H4 := hide hrow4
              rw [HRC.out.2]
              have hq := consumers_any (N : Int) AS A3 cs c3 (ofNs (swp L)) sm w3 (HV2.out.fr0 hf3) (HS.out.fr0 hf3) (by omega) (by omega)
              rw [hsl] at hq
              clear hown3 hrow4
              go_wp2_with fail
              refine hq.mono ?_
              clear hq
              rintro e w4 ⟨v4, rfl, hown4, hf4⟩
              rw [HRC.out.1] at hown4 ⊢
              rw [HRC.out.2]
              obtain ⟨A5, c5, rfl, -, hrow5, -⟩ := own_slice hown4
              have H5 := hide hrow5
              have g4 := hf3.call hf4
              have hq := reduce_any (N : Int) A1 c1 (ofNs L) w4 (HG2.out.fr0 g4) (by omega)
              rw [hll] at hq
              clear hown4 hrow5
              generalize (closM false (N : Int) (ofNs L) sm).1 = CL at H4 H5 hcl ⊢
              go_wp2_with fail
              refine hq.mono ?_
              clear hq
              rintro e w5 ⟨v5, rfl, hown5, hf5⟩
              obtain ⟨A6, c6, rfl, -, hrow6, -⟩ := own_slice hown5
              have H6 := hide hrow6
              have g5 := g4.call hf5
              have hq := reduce_any (N : Int) AS cs (ofNs (swp L)) w5 (HV2.out.fr0 g5) (by omega)
              rw [hsl] at hq
              clear hown5 hrow6
              go_wp2_with fail
              refine hq.mono ?_
              clear hq
              rintro e w6 ⟨v6, rfl, hown6, hf6⟩
              obtain ⟨A7, c7, rfl, -, hrow7, -⟩ := own_slice hown6
              have H7 := hide hrow7
              have g6 := g5.call hf6
              have hq := check_any24 (N : Int) A1 c1 (ofNs L)
              rw [hll] at hq
              have HC1 := hide hq
              have hq2 := check_any24 (N : Int) AS cs (ofNs (swp L))
              rw [hsl, ← HREV.out.chk] at hq2
              have HC2 := hide hq2
              rw [← HREV.out.err]
              have HLN := hide HREV.out.len
              have HME := hide HREV.out.mem
              clear hown6 hrow7 hq hq2
              generalize (redM (N : Int) (ofNs L)).2 = er
              generalize (redM (N : Int) (ofNs L)).1 = R1 at H6 HLN HME hrl2 ⊢
              generalize (redM (N : Int) (ofNs (swp L))).1 = R2 at H7 HLN HME hrl ⊢
              generalize checkM (N : Int) (ofNs L) = ck at HC1 HC2
              have e1 : (er != er) = false := by simp
              have e2 : (ck != ck) = false := by simp
              have e3 : ((R1.length : Int) != (R2.length : Int)) = false := by rw [HLN.out]; simp
              go_wp2_with fail
              refine (equalNats_any A4 A5 c4 c5 CL CL w6 (H4.out.fr0 ((hf4.call hf5).call hf6)) (H5.out.fr0 (hf5.call hf6)) (by omega) (by omega)).mono ?_
              rintro e w7 ⟨rfl, hf7⟩
              rw [decide_eq_true rfl]
              have g7 := g6.call hf7
              go_wp2_with fail
              refine (HC1.out w7 (HG2.out.fr0 g7) (by omega)).mono ?_
              rintro e w8 ⟨rfl, hf8⟩
              have g8 := g7.call hf8
              go_wp2_with fail
              refine (HC2.out w8 (HV2.out.fr0 g8) (by omega)).mono ?_
              rintro e w9 ⟨rfl, hf9⟩
              have g9 := g8.call hf9
              have H69 := hide (H6.out.fr0 (((hf6.call hf7).call hf8).call hf9))
              have H79 := hide (H7.out.fr0 ((hf7.call hf8).call hf9))
              have hw9 := hw2.call g9
              clear H4 H5 H6 H7 HC1 HC2 HG2 HV2
              go_wp2
              go_loopg [23] R1.length (fun m i wx => Rv3 w9 R1.length m i wx)
              case atStart => exact ⟨0, by omega, rfl, Fr.refl _ _, rfl⟩
              case round =>
                obtain ⟨j, hj, rfl, hfr, hmm⟩ := hrel
                have HM3 := hide hmm
                clear hmm
                by_cases hjl : j < R1.length
                · obtain ⟨p, hp⟩ : ∃ p, R1[j]? = some p := ⟨_, List.getElem?_eq_getElem hjl⟩
                  obtain ⟨ob, oo, rfl, q0, q1⟩ := (H69.out.fr0 hfr).link hp
                  have hji : (j : Int) < (R1.length : Int) := by omega
                  have hme := HME.out p (List.mem_of_getElem? hp)
                  have HL := hide (fun (n : Nat) => linked_any A7 c7 R2 p.2 p.1 (wr.drewN n) ((H79.out.fr0 hfr).fr0 ((Fr.refl [] _).drewN _)) (by omega))
                  rw [decide_eq_true hme] at HL
                  obtain ⟨px, py⟩ := p
                  simp only at q0 q1 HL
                  clear hp hme
                  go_wp2
                  go_quiet ((go_at_call 22; exact quiet_id2 (HL.out _)))
                  have hfd := hfr.drewN nq
                  clear q0 q1
                  generalize wr.drewN nq = wd at hfd ⊢
                  go_wp2
                  go_roundg (R1.length - (j + 1))
                  case measure => rw [HM3.out]; omega
                  case rel => exact ⟨j + 1, by omega, by go_num, hfd, rfl⟩
                · have hji : ¬ (j : Int) < (R1.length : Int) := by omega
                  go_wp2_with fail
                  refine (awake24_any wr).mono ?_
                  rintro e w10 ⟨rfl, hf10⟩
                  go_wp2
                  go_ret
                  exact ⟨rfl, (hw9.call hfr).call hf10⟩
end Go.Proofs.Ytnfhiadhpbojkaa

