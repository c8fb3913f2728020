/- The law SuspendMirrors, walked. -/
import Derived.Test.YtgbkgiglagfciaaSuspP2
namespace Go.Proofs.Ytgbkgiglagfciaa
open Go.RowKit

theorem map_nv_get {o : List Nat} {k : Nat} (h : k < o.length) : (o.map nv)[k]? = some (.int .i64 ((o.getD k 0 : Nat) : Int)) := by simp [h, List.getD_eq_getElem?_getD]

set_option maxHeartbeats 4000000 in
theorem mirrors_walk (A : Option Addr) (cp : Nat) (raw : List Int) (w : World) (hr : Row w A (raw.map (Value.int .i64))) (hm : raw.length ≤ maxLen) :
    Calls Try.prog 5 #[.slice A raw.length cp] w fun e w' => e = .returned (.bool true) ∧ Fr [] w w' := by
  unfold maxLen at hm
  have HR := hide hr
  clear hr
  by_cases h20 : 20 < raw.length
  · go_enter Try.func5, Try.ntmps5
    go_wp2_with fail
    refine (awake30_any w).mono ?_
    rintro e w1 ⟨rfl, hfr⟩
    go_wp2
    go_ret
    exact ⟨rfl, hfr⟩
  · clear hm
    have h20b : decide ((20 : Int) < (raw.length : Int)) = false := by simp; omega
    go_enter Try.func5, Try.ntmps5
    go_wp2_with fail
    refine (order_any A cp raw w HR.out (by omega)).mono ?_
    rintro e w1 ⟨v1, rfl, hown1, hfr1⟩
    obtain ⟨A1, c1, rfl, hA1, hrow1, -⟩ := own_slice hown1
    have HA1 := hide hA1
    have HR1 := hide hrow1
    have hlen := ordR_length raw
    have hok := ordR_ok raw
    have hperm := ordR_perm raw
    generalize ordR raw = o at hlen hok HR1 hperm ⊢
    have h7 : o.length ≤ 7 := by omega
    have HOK := hide hok
    clear hlen hok hA1 hrow1 hown1 hperm
    go_wp2_with fail
    have hli : o.length = (toInts o).length := by simp [toInts]
    rw [hli]
    refine (trace_any A1 none c1 0 (toInts o) [] w1 (by rw [toInts_nv]; exact HR1.out) HA1.out (by rw [← hli]; omega) (Row.nil _ _) (by simp)).mono ?_
    rw [← hli]
    rintro e w2 ⟨v2, rfl, hown2, hfr2⟩
    rw [trace_clean HOK.out] at hown2
    obtain ⟨A2, c2, rfl, -, hrow2, -⟩ := own_slice hown2
    have HR2 := hide hrow2
    have hl8 : ((List.range (8 * o.length)).map (opAt o)).length = 8 * o.length := by simp
    rw [hl8]
    have hb8 : (((8 * o.length : Nat) : Int) != 8 * (o.length : Int)) = false := by simp
    clear hown2 hrow2 hl8 hli
    have hw2 : Fr [] w w2 := hfr1.call hfr2
    have hr2 : ∀ p i : Nat, 1 ≤ p → p ≤ 8 → i < o.length → ∃ ob oo, A2 = some ⟨ob, oo, none⟩ ∧ w2.cell? ⟨ob, oo + ((p - 1) * o.length + i) * 2, none⟩ = some (nv p) ∧ w2.cell? ⟨ob, oo + ((p - 1) * o.length + i) * 2 + 1, none⟩ = some (nv (devAt o p i)) := by
      intro p i h1 h8 hi
      have hm : (p - 1) * o.length + i < 8 * o.length := by
        have : (p - 1) * o.length ≤ 7 * o.length := Nat.mul_le_mul_right _ (by omega)
        omega
      have hg : ((List.range (8 * o.length)).map (opAt o))[(p - 1) * o.length + i]? = some (p, devAt o p i) := by
        rw [List.getElem?_map, List.getElem?_range hm]
        simp only [Option.map_some]
        rw [opAt_of hi, show p - 1 + 1 = p by omega]
      obtain ⟨ob, oo, e, hc1⟩ := HR2.out.at_ (opCells_get hg).1
      obtain ⟨ob', oo', e', hc2⟩ := HR2.out.at_ (opCells_get hg).2
      rw [e] at e'
      cases e'
      exact ⟨ob, oo, e, hc1, by rw [Nat.add_assoc]; exact hc2⟩
    have HC2 := hide hr2
    have HRO := hide (HR1.out.fr0 hfr2)
    clear hr2 hfr1 hfr2 HR
    go_wp2
    go_loopg [6] 8 (fun k v wr => ∃ p : Nat, 1 ≤ p ∧ p ≤ 9 ∧ v = .int .i64 p ∧ w2 = wr ∧ k = 9 - p)
    case atStart => exact ⟨1, by omega, by omega, rfl, rfl, rfl⟩
    case round =>
      obtain ⟨p, hp1, hp9, rfl, rfl, hk⟩ := hrel
      have HK := hide hk
      clear hk
      by_cases hp8 : p ≤ 8
      · have hpb : decide ((p : Int) ≤ 8) = true := by simp; omega
        go_wp2
        go_loopg [7] o.length (fun k v wr => ∃ i : Nat, i ≤ o.length ∧ v = .int .i64 i ∧ w2 = wr ∧ k = o.length - i)
        case atStart => exact ⟨0, by omega, rfl, rfl, rfl⟩
        case round =>
          obtain ⟨i, hi, rfl, rfl, hk2⟩ := hrel
          have HK2 := hide hk2
          clear hk2
          by_cases hin : i < o.length
          · obtain ⟨ob, oo, rfl, hc1⟩ := HRO.out.at_ (map_nv_get hin)
            obtain ⟨_, _, e, hc2⟩ := HRO.out.at_ (map_nv_get (show o.length - 1 - i < o.length by omega))
            cases e
            obtain ⟨ob2, oo2, rfl, hd1, hd2⟩ := HC2.out p i hp1 hp8 hin
            have hdv : devAt o p i = if rev p then o.getD (o.length - 1 - i) 0 else o.getD i 0 := rfl
            rw [hdv] at hd2
            have htn : ((o.length : Int) - 1 - (i : Int)).toNat = o.length - 1 - i := by omega
            have HTN := hide htn
            clear hdv htn
            generalize o.getD i 0 = d1 at hc1 hd2
            generalize o.getD (o.length - 1 - i) 0 = d2 at hc2 hd2
            have hpp : p = 1 ∨ p = 2 ∨ p = 3 ∨ p = 4 ∨ p = 5 ∨ p = 6 ∨ p = 7 ∨ p = 8 := by omega
            clear hpb hp1 hp9 hp8
            rcases hpp with rfl | rfl | rfl | rfl | rfl | rfl | rfl | rfl
            all_goals
              simp only [rev] at hd2
              simp at hd1 hd2
              have i1 : (i : Int) < (o.length : Int) := by omega
              go_wp2
              go_roundg (o.length - (i + 1))
              case measure => rw [HK2.out]; omega
              case rel => exact ⟨i + 1, by omega, by go_num, rfl, rfl⟩
          · go_wp2
            go_roundg (9 - (p + 1))
            case measure => rw [HK.out]; omega
            case rel => exact ⟨p + 1, by omega, by omega, by go_num, rfl, rfl⟩
      · have hpb : decide ((p : Int) ≤ 8) = false := by simp; omega
        go_wp2_with fail
        refine (awake30_any _).mono ?_
        rintro e w3 ⟨rfl, hfr3⟩
        go_wp2
        go_ret
        exact ⟨rfl, hw2.call hfr3⟩
end Go.Proofs.Ytgbkgiglagfciaa
