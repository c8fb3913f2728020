/- Walks over the reference of layer 24: invalid, Basic. -/
import Derived.Test.YtinengemeppefaaGraW1Mg
namespace Go.Proofs.Ytinengemeppefaa
open Go.RowKit

def invB (n : Int) (l : List (Int × Int)) : Bool := decide (¬ LinksOk n l)
theorem invB_true {n : Int} {l : List (Int × Int)} (h : ¬ LinksOk n l) : invB n l = true := decide_eq_true h
theorem invB_false {n : Int} {l : List (Int × Int)} (h : LinksOk n l) : invB n l = false := decide_eq_false (fun k => k h)
set_option maxHeartbeats 2000000 in
theorem rinvalid_any (n : Int) (A : Option Addr) (cp : Nat) (l : List (Int × Int)) (w : World) (hr : Row w A (pcs l)) (hm : l.length ≤ 4096) :
    Calls Try.prog 50 #[.int .i64 n, .slice A l.length cp] w fun e w' => e = .returned (.bool (invB n l)) ∧ Fr [] w w' := by
  have HR := hide hr
  clear hr
  by_cases hh : 0 ≤ n ∧ n ≤ 128 ∧ l.length ≤ 1024
  · obtain ⟨h0, h1, h2⟩ := hh
    go_enter Try.func50, Try.ntmps50
    go_wp2
    go_loopg [5] l.length (fun m i wr => ChkRel w n l m i wr)
    case atStart => exact ⟨0, by omega, rfl, by simp, Fr.refl _ _, rfl⟩
    case round =>
      obtain ⟨k, hk, rfl, hok, hfr, hmm⟩ := hrel
      have HOK := hide hok
      have HM := hide hmm
      clear hok hmm
      by_cases hlt : k < l.length
      · obtain ⟨p, hp⟩ : ∃ p, l[k]? = some p := ⟨_, List.getElem?_eq_getElem hlt⟩
        obtain ⟨ob, oo, rfl, c1, c2⟩ := (HR.out.fr0 hfr).link hp
        have HP := hide hp
        clear hp
        have hkl : (k : Int) < (l.length : Int) := by omega
        obtain ⟨c, s⟩ := p
        simp only at c1 c2
        go_wp2
        all_goals first
          | (go_roundg (l.length - (k + 1))
             case measure => rw [HM.out]; omega
             case rel =>
               refine ⟨k + 1, by omega, by go_num, fun q hq => ?_, hfr, rfl⟩
               rw [take_succ_some HP.out] at hq
               rcases List.mem_append.1 hq with h | h
               · exact HOK.out q h
               · rw [List.mem_singleton.1 h]
                 unfold LinkOk
                 simp only
                 omega)
          | (go_ret
             refine ⟨ret_bool (invB_true (fun h => ?_)).symm, hfr⟩
             have h9 := h.2.2.2 (c, s) (List.mem_of_getElem? HP.out)
             unfold LinkOk at h9
             simp only at h9
             omega)
      · have hkl : ¬ (k : Int) < (l.length : Int) := by omega
        have hall : LinksOk n l := ⟨h0, h1, h2, by have := HOK.out; rwa [List.take_of_length_le (by omega)] at this⟩
        have HALL := hide hall
        clear hall HOK
        go_wp2
        go_ret
        exact ⟨ret_bool (invB_false HALL.out).symm, hfr⟩
  · have hx : n < 0 ∨ 128 < n ∨ 1024 < (l.length : Int) := by omega
    have hno : ¬ LinksOk n l := fun h => hh ⟨h.1, h.2.1, h.2.2.1⟩
    have HNO := hide hno
    clear hh hno
    go_enter Try.func50, Try.ntmps50
    go_wp2
    all_goals first
      | (go_ret
         exact ⟨ret_bool (invB_true HNO.out).symm, Fr.refl _ _⟩)
      | (exfalso; omega)

def DupRel (w : World) (l : List (Int × Int)) (m : Nat) (i : Value) (wr : World) : Prop :=
  ∃ k : Nat, k ≤ l.length ∧ i = .int .i64 k ∧ (l.take k).Nodup ∧ Fr [] w wr ∧ m = l.length - k
def Dup2Rel (w : World) (l : List (Int × Int)) (p : Int × Int) (n : Nat) (m : Nat) (i : Value) (wr : World) : Prop :=
  ∃ k : Nat, k ≤ n ∧ i = .int .i64 k ∧ p ∉ l.take k ∧ Fr [] w wr ∧ m = n - k

set_option maxHeartbeats 2000000 in
theorem rbasic_any (n : Int) (A : Option Addr) (cp : Nat) (l : List (Int × Int)) (w : World) (hr : Row w A (pcs l)) (hm : l.length ≤ 4096) :
    Calls Try.prog 48 #[.int .i64 n, .slice A l.length cp] w fun e w' => e = .returned (.int .i64 (basicM n l)) ∧ Fr [] w w' := by
  have HR := hide hr
  clear hr
  go_enter Try.func48, Try.ntmps48
  go_wp2_with fail
  refine (rinvalid_any n A cp l w HR.out hm).mono ?_
  rintro e w1 ⟨rfl, hfr1⟩
  by_cases hok : LinksOk n l
  · rw [invB_false hok]
    have HOK := hide hok
    clear hok
    go_wp2
    go_loopg [5] l.length (fun m i wr => DupRel w l m i wr)
    case atStart => exact ⟨0, by omega, rfl, by simp, hfr1, rfl⟩
    case round =>
      clear hfr1
      obtain ⟨k, hk, rfl, hnd, hfr, hmm⟩ := hrel
      have HND := hide hnd
      have HM := hide hmm
      clear hnd hmm
      by_cases hlt : k < l.length
      · obtain ⟨p, hp⟩ : ∃ p, l[k]? = some p := ⟨_, List.getElem?_eq_getElem hlt⟩
        have HP := hide hp
        clear hp
        have hkl : (k : Int) < (l.length : Int) := by omega
        go_wp2
        go_loopg [6] k (fun m i wi => Dup2Rel w l p k m i wi)
        case atStart => exact ⟨0, by omega, rfl, by simp, hfr, rfl⟩
        case round =>
          clear hfr
          obtain ⟨j, hj, rfl, hnp, hfr, hmm⟩ := hrel
          have HNP := hide hnp
          have HM2 := hide hmm
          clear hnp hmm
          by_cases hlt2 : j < k
          · obtain ⟨q, hq⟩ : ∃ q, l[j]? = some q := ⟨_, List.getElem?_eq_getElem (by omega)⟩
            obtain ⟨ob, oo, rfl, c1, c2⟩ := (HR.out.fr0 hfr).link HP.out
            obtain ⟨_, _, e2, c3, c4⟩ := (HR.out.fr0 hfr).link hq
            cases e2
            have HQ := hide hq
            clear hq
            have hjl : (j : Int) < (l.length : Int) := by omega
            have hjk : (j : Int) < (k : Int) := by omega
            obtain ⟨c, s⟩ := p
            obtain ⟨c', s'⟩ := q
            simp only at c1 c2 c3 c4
            by_cases e : c = c' ∧ s = s'
            · obtain ⟨rfl, rfl⟩ := e
              go_wp2
              go_quiet (fail)
              go_wp2
              go_ret
              refine ⟨ret_int (basicM_dup HOK.out (fun hd => ?_)).symm, hfr.drewN _⟩
              have h1 := split_at_some HP.out
              rw [h1, List.nodup_append] at hd
              refine hd.2.2 (c, s) (List.mem_iff_getElem?.2 ⟨j, ?_⟩) _ (List.mem_cons_self ..) rfl
              rw [List.getElem?_take, if_pos hlt2]
              exact HQ.out
            · have hne : ¬ (c, s) = (c', s') := fun h => e (by injection h with h1 h2; exact ⟨h1, h2⟩)
              have HNE := hide hne
              have e' : (c = c' ∧ ¬ s = s') ∨ ¬ c = c' := by omega
              clear e hne
              rcases e' with ⟨rfl, e2⟩ | e1
              all_goals
                go_wp2
                go_quiet (fail)
                go_wp2
                go_roundg (k - (j + 1))
                case measure => rw [HM2.out]; omega
                case rel =>
                  refine ⟨j + 1, by omega, by go_num, ?_, hfr.drewN _, rfl⟩
                  rw [take_succ_some HQ.out]
                  intro h
                  rcases List.mem_append.1 h with h | h
                  · exact HNP.out h
                  · exact HNE.out (List.mem_singleton.1 h)
          · have hjk : ¬ (j : Int) < (k : Int) := by omega
            have hjk2 : j = k := by omega
            have HJK := hide hjk2
            clear hjk2
            go_wp2
            go_roundg (l.length - (k + 1))
            case measure => rw [HM.out]; omega
            case rel =>
              refine ⟨k + 1, by omega, by go_num, ?_, hfr, rfl⟩
              rw [take_succ_some HP.out, List.nodup_append]
              refine ⟨HND.out, by simp, fun a ha b hb => ?_⟩
              rw [List.mem_singleton.1 hb]
              rintro rfl
              have := HNP.out
              rw [HJK.out] at this
              exact this ha
      · have hkl : ¬ (k : Int) < (l.length : Int) := by omega
        go_wp2
        go_ret
        refine ⟨ret_int (basicM_ok HOK.out ?_).symm, hfr⟩
        have := HND.out
        rwa [List.take_of_length_le (by omega)] at this
  · rw [invB_true hok]
    go_wp2
    go_ret
    exact ⟨ret_int (basicM_not hok).symm, hfr1⟩
end Go.Proofs.Ytinengemeppefaa

