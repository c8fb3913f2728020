/- Walks: the law's large, reverse. -/
import Derived.Test.YtmkbahmjickoiaaDevW12
namespace Go.Proofs.Ytmkbahmjickoiaa
open Go.RowKit

def LgOk (raw : List DV) : Prop := raw.length ≤ 20 ∧ ∀ x ∈ raw, ∀ k, k < 4 → (x.rl k).length ≤ 20
def LgRet (w : World) (raw : List DV) (e : Ending) (w' : World) : Prop := ∃ b, e = .returned (.bool b) ∧ (b = false → LgOk raw) ∧ w = w'
def Lg1 (w : World) (raw : List DV) (m : Nat) (i : Value) (wr : World) : Prop := ∃ k : Nat, k ≤ raw.length ∧ i = .int .i64 (k : Int) ∧ (∀ j x, j < k → raw[j]? = some x → ∀ q, q < 4 → (x.rl q).length ≤ 20) ∧ w = wr ∧ m = raw.length - k
def Lg2 (w : World) (r : DV) (m : Nat) (i : Value) (wr : World) : Prop := ∃ k : Nat, k ≤ 4 ∧ i = .int .i64 (k : Int) ∧ (∀ q, q < k → (r.rl q).length ≤ 20) ∧ w = wr ∧ m = 4 - k
set_option maxHeartbeats 4000000 in
theorem large27_any (A : Option Addr) (cp : Nat) (raw : List DV) (w : World) (hr : DvsAt w A raw) (hl : raw.length ≤ maxLen) :
    Calls Try.prog 8 #[.slice A raw.length cp] w (LgRet w raw) := by
  unfold maxLen at hl
  have HR := hide hr
  clear hr
  by_cases h20 : 20 < raw.length
  · have h20' : (20 : Int) < (raw.length : Int) := by omega
    go_enter Try.func8, Try.ntmps8
    go_wp2
    go_ret
    exact ⟨true, rfl, (fun h => by cases h), rfl⟩
  · have h20' : ¬ (20 : Int) < (raw.length : Int) := by omega
    go_enter Try.func8, Try.ntmps8
    go_wp2
    go_loopg [3] raw.length (fun m i wr => Lg1 w raw m i wr)
    case atStart => exact ⟨0, by omega, rfl, fun j x hj => by omega, rfl, rfl⟩
    case round =>
      obtain ⟨k, hk, rfl, hall, rfl, hmm⟩ := hrel
      have HM := hide hmm
      have HALL := hide hall
      clear hmm hall
      by_cases hlt : k < raw.length
      · obtain ⟨r, hx⟩ : ∃ r, raw[k]? = some r := ⟨_, List.getElem?_eq_getElem hlt⟩
        have HX := hide hx
        have hkl : (k : Int) < (raw.length : Int) := by omega
        clear hx
        go_wp2
        go_loopg [4] 4 (fun m i wr => Lg2 w r m i wr)
        case atStart => exact ⟨0, by omega, rfl, fun j hj => by omega, rfl, rfl⟩
        case round =>
          obtain ⟨j, hj, rfl, hall, rfl, hmm⟩ := hrel
          have HM2 := hide hmm
          have HA2 := hide hall
          clear hmm hall
          by_cases hj4 : j < 4
          · obtain ⟨ob, oo, A', cp', rfl, cR, -⟩ := HR.out.rail HX.out hj4
            have hji : (j : Int) < 4 := by omega
            by_cases hb : 20 < (r.rl j).length
            · have hb' : (20 : Int) < ((r.rl j).length : Int) := by omega
              go_wp2
              go_ret
              exact ⟨true, rfl, (fun h => by cases h), rfl⟩
            · have hb' : ¬ (20 : Int) < ((r.rl j).length : Int) := by omega
              go_wp2
              go_roundg (4 - (j + 1))
              case measure => rw [HM2.out]; omega
              case rel =>
                refine ⟨j + 1, by omega, by go_num, fun q hq => ?_, rfl, rfl⟩
                by_cases e : q = j
                · subst e; omega
                · exact HA2.out q (by omega)
          · have hji : ¬ (j : Int) < 4 := by omega
            go_wp2
            go_roundg (raw.length - (k + 1))
            case measure => rw [HM.out]; omega
            case rel =>
              refine ⟨k + 1, by omega, by go_num, fun q x hq hx => ?_, rfl, rfl⟩
              by_cases e : q = k
              · subst e
                rw [HX.out] at hx
                injection hx with hx
                subst hx
                exact fun p hp => HA2.out p (by omega)
              · exact HALL.out q x (by omega) hx
      · have hkl : ¬ (k : Int) < (raw.length : Int) := by omega
        go_wp2
        go_ret
        refine ⟨false, rfl, fun _ => ⟨by omega, fun x hx q hq => ?_⟩, rfl⟩
        obtain ⟨j, hj⟩ := List.getElem?_of_mem hx
        exact HALL.out j x (by have := (List.getElem?_eq_some_iff.1 hj).1; omega) hj q hq
def LvRel (w : World) (l : List Int) (m : Nat) (v i : Value) (wr : World) : Prop :=
  ∃ q : Nat, q ≤ l.length ∧ i = .int .i64 ((q : Int) - 1) ∧ wr.ownsRow w.heap.size 3 1 v (l.drop q).reverse.length ((l.drop q).reverse.map (Value.int .i64)) ∧ Fr [] w wr ∧ m = q
set_option maxHeartbeats 4000000 in
theorem rev27_any (A : Option Addr) (cp : Nat) (l : List Int) (w : World) (hr : Row w A (l.map (Value.int .i64))) (hl : l.length ≤ 4096) :
    Calls Try.prog 19 #[.slice A l.length cp] w (OwnRet w 3 1 l.reverse.length (l.reverse.map (Value.int .i64))) := by
  obtain ⟨i0, hi0, hz0, hz1, hz2⟩ := info_parts int_info27
  have HI := hide (And.intro hi0 (And.intro hz0 (And.intro hz1 hz2)))
  have HR := hide hr
  clear hr hi0 hz0 hz1 hz2
  go_enter Try.func19, Try.ntmps19
  go_wp2
  go_loopg [3, 4] l.length (fun m v i wr => LvRel w l m v i wr)
  case atStart => exact ⟨l.length, by omega, by rfl, by rw [List.drop_of_length_le (by omega)]; exact own_nil _ _ _ _, Fr.refl _ _, rfl⟩
  case round =>
    obtain ⟨q, hq, rfl, hown, hfr, hmm⟩ := hrel
    have HMM := hide hmm
    clear hmm
    obtain ⟨A6, c6, rfl, -, -, -⟩ := own_slice hown
    have HOWN := hide hown
    clear hown
    by_cases hlt : 0 < q
    · obtain ⟨x, hx⟩ : ∃ x, l[q - 1]? = some x := ⟨_, List.getElem?_eq_getElem (by omega)⟩
      obtain ⟨ob, oo, e, c1⟩ := (HR.out.fr0 hfr).int hx
      subst e
      obtain ⟨r, hr⟩ : ∃ r, r = q - 1 := ⟨_, rfl⟩
      rw [← hr] at c1 hx
      have hqr : (q : Int) - 1 = (r : Int) := by omega
      rw [hqr]
      have hrl : (r : Int) < (l.length : Int) := by omega
      have hr0 : (0 : Int) ≤ (r : Int) := by omega
      have hts : l.drop r = x :: l.drop q := by
        obtain ⟨h1, h2⟩ := List.getElem?_eq_some_iff.1 hx
        rw [List.drop_eq_getElem_cons h1, h2, show r + 1 = q by omega]
      have HSN : Hid ((l.drop r).reverse = (l.drop q).reverse ++ [x]) := hide (by rw [hts, List.reverse_cons])
      have hll : (l.drop q).reverse.length ≤ 4096 := by
        rw [List.length_reverse, List.length_drop]
        omega
      have HRR := hide hr
      have hsz : w.heap.size ≤ wr.heap.size + 1 := by have := hfr.size; omega
      clear hx hts hqr hr
      generalize (l.drop q).reverse = F at HOWN HSN hll ⊢
      go_wp2_with (first
        | (at_builtin
           refine wpList_append_row _ rfl (.tmp 12) (.tmp 17) _ rfl w.heap.size 3 i0 (.int .i64 0) 1 8 Try.underlying29 HI.out.1 HI.out.2.1 HI.out.2.2.1 HI.out.2.2.2 rfl (by omega) (.slice A6 F.length c6) F.length (F.map (Value.int .i64)) rfl
             (own_fr HOWN.out ((Fr.refl [] _).alloc _) (fun _ _ => by simp)) (some ⟨wr.heap.size, 0, none⟩) 1 1 [.int .i64 x] rfl rfl (row_one wr _ _) (by intro u hu; simp at hu; subst hu; rfl) (by simp only [maxLen]; omega) (by omega) (by simpa using hsz) ?_
           intro v1 w9 hown9 hg9 hat9))
      have hf9 : Fr [] w w9 := (hfr.alloc _).grown hg9 (fun y hy => .inr (own_block HOWN.out hy).1)
      go_roundg r
      case measure => rw [HMM.out, HRR.out]; omega
      case rel =>
        refine ⟨r, by omega, by go_num, ?_, hf9, rfl⟩
        rw [HSN.out, List.length_append, List.length_singleton, List.map_append]
        exact hown9
    · obtain rfl : q = 0 := by omega
      rw [List.drop_zero] at HOWN ⊢
      go_wp2
      go_ret
      exact ⟨_, rfl, HOWN.out, hfr⟩
end Go.Proofs.Ytmkbahmjickoiaa
