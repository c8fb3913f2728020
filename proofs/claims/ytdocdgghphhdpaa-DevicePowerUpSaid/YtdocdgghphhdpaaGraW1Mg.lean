/- Walks: depgraph.checkLinks. -/
import Derived.Test.YtdocdgghphhdpaaMgDevicePower6
import Derived.Test.YtdocdgghphhdpaaMgDevicePower7
import Derived.Deep.QuietTactic
import Derived.BigQuiet
import Derived.Lib.Hide
import Derived.Deep.LoopGhost
namespace Go.Proofs.Ytdocdgghphhdpaa
open Go.RowKit

def ChkRel (w : World) (n : Int) (l : List (Int × Int)) (m : Nat) (i : Value) (wr : World) : Prop :=
  ∃ k : Nat, k ≤ l.length ∧ i = .int .i64 k ∧ (∀ p ∈ l.take k, LinkOk n p) ∧ Fr [] w wr ∧ m = l.length - k
def SeenRel (w : World) (b : Nat) (l : List (Int × Int)) (m : Nat) (i : Value) (wr : World) : Prop :=
  ∃ k : Nat, k ≤ l.length ∧ i = .int .i64 k ∧ (l.take k).Nodup ∧ MapAt wr b (l.take k) ∧ Fr [] w wr ∧ m = l.length - k

set_option maxHeartbeats 2000000 in
theorem checkLinks_any (n : Int) (A : Option Addr) (cp : Nat) (l : List (Int × Int)) (w : World) (hr : Row w A (pcs l)) (hm : l.length ≤ 4096) :
    Calls Try.prog 77 #[.int .i64 n, .slice A l.length cp] w fun e w' => e = .returned (.int .i64 (basicM n l)) ∧ Fr [] w w' := by
  have HR := hide hr
  clear hr
  by_cases hh : 0 ≤ n ∧ n ≤ 128 ∧ l.length ≤ 1024
  · obtain ⟨h0, h1, h2⟩ := hh
    go_enter Try.func77, Try.ntmps77
    go_wp2
    go_loopg [23] l.length (fun m i wr => ChkRel w n l m i wr)
    case atStart => exact ⟨0, by omega, rfl, by simp, Fr.refl _ _, rfl⟩
    case round =>
      obtain ⟨k, hk, rfl, hok, hfr, hmm⟩ := hrel
      have HOK := hide hok
      have HM := hide hmm
      clear hok hmm
      by_cases hlt : k < l.length
      · obtain ⟨p, hp⟩ : ∃ p, l[k]? = some p := ⟨_, List.getElem?_eq_getElem hlt⟩
        obtain ⟨ob, oo, rfl, c1, c2⟩ := (HR.out.fr0 hfr).link hp
        have HP := hide hp
        clear hp
        have hkl : (k : Int) < (l.length : Int) := by omega
        obtain ⟨c, s⟩ := p
        simp only at c1 c2
        go_wp2
        all_goals first
          | (go_roundg (l.length - (k + 1))
             case measure => rw [HM.out]; omega
             case rel =>
               refine ⟨k + 1, by omega, by go_num, fun q hq => ?_, hfr.alloc _, rfl⟩
               rw [take_succ_some HP.out] at hq
               rcases List.mem_append.1 hq with h | h
               · exact HOK.out q h
               · rw [List.mem_singleton.1 h]
                 unfold LinkOk
                 simp only
                 omega)
          | (go_ret
             refine ⟨ret_int (basicM_not (fun h => ?_)).symm, hfr.alloc _⟩
             have h9 := h.2.2.2 (c, s) (List.mem_of_getElem? HP.out)
             unfold LinkOk at h9
             simp only at h9
             omega)
      · have hkl : ¬ (k : Int) < (l.length : Int) := by omega
        have hall : LinksOk n l := ⟨h0, h1, h2, by have := HOK.out; rwa [List.take_of_length_le (by omega)] at this⟩
        have HALL := hide hall
        clear hall HOK
        have hmk := run_make_links (l.length : Int)
        have hnew := MapAt.new wr
        have hfr1 : Fr [] w (wr.alloc (.map #[] 0)) := hfr.alloc _
        have hbw : w.heap.size ≤ wr.heap.size := hfr.size
        go_wp2
        generalize (wr.alloc (.map #[] 0)) = w1 at hnew hfr1 ⊢
        generalize wr.heap.size = b at hnew hbw ⊢
        clear hmk
        go_loopg [53] l.length (fun m i wi => SeenRel w b l m i wi)
        case atStart => exact ⟨0, by omega, rfl, by simp, hnew, hfr1, rfl⟩
        case round =>
          clear hnew hfr1 hfr HM
          obtain ⟨k, hk, rfl, hnd, hmap, hfr, hmm⟩ := hrel
          have HND := hide hnd
          have HMM := hide hmm
          have HMAP := hide hmap
          clear hnd hmm hmap
          by_cases hlt : k < l.length
          · obtain ⟨p, hp⟩ : ∃ p, l[k]? = some p := ⟨_, List.getElem?_eq_getElem hlt⟩
            obtain ⟨ob, oo, rfl, c1, c2⟩ := (HR.out.fr0 hfr).link hp
            have HP := hide hp
            clear hp
            have hkl : (k : Int) < (l.length : Int) := by omega
            have hmap1 := HMAP.out.fr ((Fr.refl [] _).alloc (.cells #[.int .i64 p.1, .int .i64 p.2] 76)) (by simp)
            have hlk := hmap1.lookup p
            by_cases hin : p ∈ l.take k
            · rw [decide_eq_true hin] at hlk
              clear hmap1
              obtain ⟨c, s⟩ := p
              simp only at c1 c2 hlk
              go_wp2
              go_ret
              refine ⟨ret_int (basicM_dup HALL.out (fun hd => ?_)).symm, hfr.alloc _⟩
              have h1 := split_at_some HP.out
              rw [h1, List.nodup_append] at hd
              exact hd.2.2 _ hin _ (List.mem_cons_self ..) rfl
            · rw [decide_eq_false hin] at hlk
              obtain ⟨w5, hup, hmap5, hfr5⟩ := hmap1.update p hin
              have hfr5' := (hfr.alloc (.cells #[.int .i64 p.1, .int .i64 p.2] 76)).step hfr5 (fun i hi => .inr (by rw [List.mem_singleton.1 hi]; exact hbw))
              have hnd' : (l.take (k + 1)).Nodup := by
                rw [take_succ_some HP.out, List.nodup_append]
                exact ⟨HND.out, by simp, fun a ha b hb => by rw [List.mem_singleton.1 hb]; rintro rfl; exact hin ha⟩
              have HND5 := hide hnd'
              have HM5 := hide hmap5
              rw [← take_succ_some HP.out] at HM5
              clear hmap1 hnd' hmap5 hfr5 hin
              obtain ⟨c, s⟩ := p
              simp only at c1 c2 hlk hup
              go_wp2
              go_roundg (l.length - (k + 1))
              case measure => rw [HMM.out]; omega
              case rel => exact ⟨k + 1, by omega, by go_num, HND5.out, HM5.out, hfr5', rfl⟩
          · have hkl : ¬ (k : Int) < (l.length : Int) := by omega
            go_wp2
            go_ret
            refine ⟨ret_int (basicM_ok HALL.out ?_).symm, hfr⟩
            have := HND.out
            rwa [List.take_of_length_le (by omega)] at this
  · have hx : n < 0 ∨ 128 < n ∨ 1024 < (l.length : Int) := by omega
    have hno : ¬ LinksOk n l := fun h => hh ⟨h.1, h.2.1, h.2.2.1⟩
    have HNO := hide hno
    clear hh hno
    go_enter Try.func77, Try.ntmps77
    go_wp2
    all_goals first
      | (go_ret
         exact ⟨ret_int (basicM_not HNO.out).symm, Fr.refl _ _⟩)
      | (exfalso; omega)
end Go.Proofs.Ytdocdgghphhdpaa

