/- Walks over the reference of layer 24: remove. -/
import Derived.Test.YtinengemeppefaaGraR1Mg
import Derived.Test.YtinengemeppefaaGraM2Mg
import Derived.Test.YtinengemeppefaaMgResumeVerify2
import Derived.Test.YtinengemeppefaaApp
import Derived.Test.YtinengemeppefaaMgResumeVerify1
import Derived.Deep.Cut
import Derived.Deep.CutBlock
namespace Go.Proofs.Ytinengemeppefaa
open Go.RowKit

/-- i can be taken as far as the links of L tell. -/
def rdyG (L : List (Nat × Nat)) (o : List Nat) (v : Nat) : Bool := decide (Ready L o v)
theorem rdyB_nil (o : List Nat) (v : Nat) : rdyG [] o v = !decide (v ∈ o) := by simp [rdyG, Ready]
theorem rdyB_snoc (L : List (Nat × Nat)) (o : List Nat) (v : Nat) (p : Nat × Nat) : rdyG (L ++ [p]) o v = (rdyG L o v && !(decide (p.1 = v) && !decide (p.2 ∈ o))) := by
  unfold rdyG
  rw [Bool.eq_iff_iff]
  simp only [decide_eq_true_eq, Bool.and_eq_true, Bool.not_eq_true', Bool.and_eq_false_iff, decide_eq_false_iff_not, Bool.not_eq_false']
  unfold Ready
  simp only [List.mem_append, List.mem_singleton]
  constructor
  · rintro ⟨h1, h2⟩
    refine ⟨⟨h1, fun q hq => h2 q (.inl hq)⟩, ?_⟩
    by_cases e : p.1 = v
    · exact .inr (h2 p (.inr rfl) e)
    · exact .inl e
  · rintro ⟨⟨h1, h2⟩, h3⟩
    refine ⟨h1, fun q hq e => ?_⟩
    rcases hq with hq | rfl
    · exact h2 q hq e
    · rcases h3 with h3 | h3
      · exact absurd e h3
      · exact h3
/-- The smallest node from j on that can be taken, or -1. -/
def NextIs (n : Nat) (L : List (Nat × Nat)) (o : List Nat) (j : Nat) (x : Int) : Prop :=
  (x = -1 ∧ ∀ u, j ≤ u → u < n → ¬ Ready L o u) ∨ ∃ v : Nat, x = v ∧ j ≤ v ∧ v < n ∧ Ready L o v ∧ ∀ u, j ≤ u → u < v → ¬ Ready L o u

def RemRel (w : World) (gg n : Nat) (L : List (Nat × Nat)) (m : Nat) (v : Value) (wr : World) : Prop :=
  ∃ o : List Nat, SeqOk n L o ∧ FA wr gg 4 bv n (fun u => decide (u ∈ o)) ∧ wr.ownsRow w.heap.size 3 1 v o.length (o.map nv) ∧ Fr [] w wr ∧ greedyF n L (n - o.length) o = greedy n L ∧ m = n - o.length
def MidRel (n : Nat) (L : List (Nat × Nat)) (o : List Nat) (w1 : World) (m : Nat) (v8 v9 : Value) (wr : World) : Prop :=
  ∃ (j : Nat) (x : Int), j ≤ n ∧ v8 = .int .i64 x ∧ v9 = .int .i64 ((j : Int) - 1) ∧ NextIs n L o j x ∧ Fr [] w1 wr ∧ m = j
def InRel (L : List (Nat × Nat)) (o : List Nat) (w1 : World) (i : Nat) (m : Nat) (v10 v11 : Value) (wr : World) : Prop :=
  ∃ k : Nat, k ≤ L.length ∧ v10 = .bool (rdyG (L.take k) o i) ∧ v11 = .int .i64 k ∧ Fr [] w1 wr ∧ m = L.length - k
def RemRet (w : World) (n : Nat) (L : List (Nat × Nat)) (e : Ending) (w' : World) : Prop :=
  ∃ v gg, e = .returned (.tuple #[v, .slice (some ⟨gg, 0, none⟩) n n]) ∧ w'.ownsRow w.heap.size 3 1 v (greedy n L).length ((greedy n L).map nv) ∧ FA w' gg 4 bv n (fun u => decide (u ∈ greedy n L)) ∧ w.heap.size ≤ gg ∧ Fr [] w w'

set_option maxHeartbeats 4000000 in
theorem rremove_any (n : Nat) (A : Option Addr) (cp : Nat) (l : List (Int × Int)) (w : World) (hr : Row w A (pcs l)) (hok : LinksOk n l) :
    Calls Try.prog 46 #[.int .i64 n, .slice A l.length cp] w (RemRet w n (toNs l)) := by
  obtain ⟨i0, hi0, hz0, hz1, hz2⟩ := info_parts int_info1
  have HI := hide (And.intro hi0 (And.intro hz0 (And.intro hz1 hz2)))
  have HR := hide hr
  have hl1 : l.length ≤ 1024 := hok.2.2.1
  have hn1 : n ≤ 128 := by have := hok.2.1; omega
  have HOK := hide hok.2.2.2
  have hmk := make_bools n n (Nat.le_refl _) (by omega)
  have hnew := FA.new w 4 bv false n
  have hfr0 : Fr [] w (w.alloc (.cells (Array.replicate n (.bool false)) 4)) := (Fr.refl _ _).alloc _
  obtain ⟨L, hL⟩ : ∃ L, L = toNs l := ⟨_, rfl⟩
  have hLl : L.length = l.length := by rw [hL]; simp [toNs]
  have HLL := hide hLl
  have hl2 : L.length ≤ 1024 := by omega
  rw [← hL]
  have HL := hide hL
  clear hr hok hi0 hz0 hz1 hz2 hL hLl
  go_enter Try.func46, Try.ntmps46
  go_wp2
  generalize (w.alloc (.cells (Array.replicate n (.bool false)) 4)) = w1 at hnew hfr0 ⊢
  obtain ⟨gg, hgg⟩ : ∃ gg, gg = w.heap.size := ⟨_, rfl⟩
  have hgw : w.heap.size ≤ gg := by omega
  rw [← hgg] at hnew ⊢
  clear hgg hmk
  go_loopg [6] n (fun m v wr => RemRel w gg n L m v wr)
  case atStart => exact ⟨[], SeqOk.nil _ _, hnew.congr (fun u _ => by simp), own_nil _ _ _ _, hfr0, by simp [greedy], by simp⟩
  case round =>
    clear hnew hfr0
    obtain ⟨o, hso, hfa, hown, hfr, hgr, hmm⟩ := hrel
    have hol := hso.length_le
    obtain ⟨A6, c6, rfl, -, -, -⟩ := own_slice hown
    have HSO := hide hso
    have HM := hide hmm
    have HGR := hide hgr
    have HFA := hide hfa
    have HOWN := hide hown
    clear hso hmm hgr hfa hown
    obtain ⟨wo, rfl⟩ : ∃ wo : World, wo = wr := ⟨_, rfl⟩
    go_wp2
    go_loopg [8, 9] n (fun m v8 v9 wr => MidRel n L o wo m v8 v9 wr)
    case atStart => exact ⟨n, -1, by omega, rfl, rfl, .inl ⟨rfl, fun u h1 h2 => by omega⟩, Fr.refl _ _, rfl⟩
    case round =>
      obtain ⟨j, x, hj, rfl, rfl, hnx, hfm, hmm⟩ := hrel
      have HNX := hide hnx
      have HM2 := hide hmm
      clear hnx hmm
      by_cases hj0 : 0 < j
      · obtain ⟨i, rfl⟩ : ∃ i, j = i + 1 := ⟨j - 1, by omega⟩
        rw [show ((i + 1 : Nat) : Int) - 1 = (i : Int) by omega]
        have hc1 := (HFA.out.fr0 hfm).cell (i := i) (by omega)
        have hin : (i : Int) < (n : Int) := by omega
        go_wp2
        go_loopg [10, 11] L.length (fun m v10 v11 wr => InRel L o wo i m v10 v11 wr)
        case atStart => exact ⟨0, by omega, by rw [List.take_zero, rdyB_nil], rfl, hfm, rfl⟩
        case round =>
          clear hfm hc1
          obtain ⟨k, hk, rfl, rfl, hfi, hmm⟩ := hrel
          have HM3 := hide hmm
          clear hmm
          cases hfree : rdyG (L.take k) o i with
          | false =>
            have hfin : rdyG L o i = false := by
              cases h : rdyG L o i with
              | false => rfl
              | true =>
                have h1 := of_decide_eq_true h
                have h2 : Ready (L.take k) o i := ⟨h1.1, fun p hp e => h1.2 p (List.mem_of_mem_take hp) e⟩
                rw [rdyG, decide_eq_true h2] at hfree
                cases hfree
            have HFIN := hide hfin
            clear hfin hfree
            by_cases hlt : k < l.length
            all_goals
              have hkl : decide ((k : Int) < (l.length : Int)) = decide (k < l.length) := by simp
              simp only [hlt, decide_true, decide_false] at hkl
              go_wp2
              go_roundg i
              case measure => rw [HM2.out]; omega
              case rel =>
                refine ⟨i, x, by omega, rfl, rfl, ?_, hfi, rfl⟩
                have hnr : ¬ Ready L o i := of_decide_eq_false HFIN.out
                rcases HNX.out with ⟨e, h⟩ | ⟨v, e, h1, h2, h3, h4⟩
                · refine .inl ⟨e, fun u hu1 hu2 => ?_⟩
                  by_cases hui : u = i
                  · rw [hui]; exact hnr
                  · exact h u (by omega) hu2
                · refine .inr ⟨v, e, by omega, h2, h3, fun u hu1 hu2 => ?_⟩
                  by_cases hui : u = i
                  · rw [hui]; exact hnr
                  · exact h4 u (by omega) hu2
          | true =>
            by_cases hlt : k < l.length
            · obtain ⟨p, hp⟩ : ∃ p, l[k]? = some p := ⟨_, List.getElem?_eq_getElem hlt⟩
              obtain ⟨ob, oo, rfl, c1, c2⟩ := (HR.out.fr0 (hfr.call hfi)).link hp
              have hpo := HOK.out p (List.mem_of_getElem? hp)
              have hLk : L[k]? = some (toN p) := by rw [HL.out]; simp [toNs, hp]
              have hsn := rdyB_snoc (L.take k) o i (toN p)
              rw [← take_succ_some hLk, hfree] at hsn
              clear hp hLk
              have hkl : (k : Int) < (l.length : Int) := by omega
              obtain ⟨c, s⟩ := p
              simp only at c1 c2
              unfold LinkOk at hpo
              simp only at hpo
              obtain ⟨q1, q2, q3, q4⟩ := hpo
              obtain ⟨c, rfl⟩ := Int.eq_ofNat_of_zero_le q1
              obtain ⟨s, rfl⟩ := Int.eq_ofNat_of_zero_le q3
              have hsn2 : rdyG (L.take (k + 1)) o i = !(decide (c = i) && !decide (s ∈ o)) := hsn.trans (Bool.true_and _)
              have hcs := (HFA.out.fr0 hfi).cell (i := s) (by omega)
              clear hsn hfree
              by_cases e : c = i
              · have eb : ((c : Int) == (i : Int)) = true := by simp [e]
                cases hso : decide (s ∈ o) with
                | false =>
                  rw [hso] at hcs hsn2
                  have HSN : Hid (rdyG (L.take (k + 1)) o i = false) := hide (by rw [hsn2]; simp [e])
                  clear hsn2 e hso
                  go_wp2
                  go_roundg (L.length - (k + 1))
                  case measure => rw [HM3.out, HLL.out]; omega
                  case rel => exact ⟨k + 1, by rw [HLL.out]; omega, by rw [HSN.out], by go_num, hfi, rfl⟩
                | true =>
                  rw [hso] at hcs hsn2
                  have HSN : Hid (rdyG (L.take (k + 1)) o i = true) := hide (by rw [hsn2]; simp)
                  clear hsn2 e hso
                  go_wp2
                  go_roundg (L.length - (k + 1))
                  case measure => rw [HM3.out, HLL.out]; omega
                  case rel => exact ⟨k + 1, by rw [HLL.out]; omega, by rw [HSN.out], by go_num, hfi, rfl⟩
              · have eb : ((c : Int) == (i : Int)) = false := by simp; omega
                have HSN : Hid (rdyG (L.take (k + 1)) o i = true) := hide (by rw [hsn2]; simp [e])
                clear hsn2 e
                go_wp2
                go_roundg (L.length - (k + 1))
                case measure => rw [HM3.out, HLL.out]; omega
                case rel => exact ⟨k + 1, by rw [HLL.out]; omega, by rw [HSN.out], by go_num, hfi, rfl⟩
            · have hkl : ¬ (k : Int) < (l.length : Int) := by omega
              have hrd : Ready L o i := by
                have := of_decide_eq_true hfree
                rwa [List.take_of_length_le (by rw [HLL.out]; omega)] at this
              have HRD := hide hrd
              clear hrd hfree
              go_wp2
              go_roundg i
              case measure => rw [HM2.out]; omega
              case rel => exact ⟨i, i, by omega, rfl, rfl, .inr ⟨i, rfl, by omega, by omega, HRD.out, fun u h1 h2 => by omega⟩, hfi, rfl⟩
      · obtain rfl : j = 0 := by omega
        have hj1 : ((0 : Nat) : Int) - 1 = -1 := by omega
        rw [hj1]
        rcases HNX.out with ⟨rfl, hno⟩ | ⟨v, rfl, -, hvn, hvr, hvm⟩
        · have hpk : pick n L o = none := pick_none.2 (fun u hu => hno u (by omega) hu)
          have HPK := hide hpk
          clear hpk hno
          go_wp2
          go_ret2
          have hge : greedy n L = o := by rw [← HGR.out, greedyF_stop HPK.out]
          refine ⟨.slice A6 o.length c6, gg, rfl, ?_, ?_, hgw, hfr.call hfm⟩
          · rw [hge]
            exact own_fr HOWN.out hfm (fun _ _ => by simp)
          · rw [hge]
            exact HFA.out.fr0 hfm
        · have hpk : pick n L o = some v := pick_some.2 ⟨hvn, hvr, fun u hu => hvm u (by omega) hu⟩
          have HPK := hide hpk
          have HVR := hide hvr
          have hfa1 := (HFA.out.fr0 hfm).set_ v true
          have hc1 := (HFA.out.fr0 hfm).cell hvn
          have hc2 := (HFA.out.fr0 hfm).frozen v
          have hown1 := own_fr (own_fr HOWN.out hfm (fun _ _ => by simp)) ((Fr.refl [gg] wr).set (p := ⟨gg, v, none⟩) (.inl (by simp)) (.bool true)) (fun y hy => by
            obtain ⟨_, _, cs, hb⟩ := own_block HOWN.out hy
            have := Blk.ne_ hb HFA.out (by decide)
            simpa using this)
          have hfr1 := (hfr.call hfm).set (p := ⟨gg, v, none⟩) (.inr hgw) (.bool true)
          have hvi : (v : Int) < (n : Int) := by omega
          clear hpk hvr hvm
          go_upto_region 18 with fail
          generalize (wr.setCell ⟨gg, v, none⟩ (.bool true)) = w5 at hown1 hfa1 hfr1 ⊢
          have HOWN1 := hide hown1
          have HFA1 := hide hfa1
          clear hc1 hc2 hown1 hfa1
          have hsz : w.heap.size ≤ w5.heap.size + 1 := by have := hfr1.size; omega
          go_wp2_with (first
            | (at_builtin
               refine wpList_append_row _ rfl (.tmp 61) (.tmp 63) _ rfl w.heap.size 3 i0 (.int .i64 0) 1 8 Try.underlying45 HI.out.1 HI.out.2.1 HI.out.2.2.1 HI.out.2.2.2 rfl (by omega) (.slice A6 o.length c6) o.length (o.map nv) rfl
                 (own_fr HOWN1.out ((Fr.refl [] _).alloc _) (fun _ _ => by simp)) (some ⟨w5.heap.size, 0, none⟩) 1 1 [.int .i64 (v : Int)] rfl rfl (row_one w5 _ _) (by intro u hu; simp at hu; subst hu; rfl) (by simp only [maxLen]; omega) (by omega) (by simpa using hsz) ?_
               intro v1 w6 hown6 hg6 hat6))
          have hol2 := (HSO.out.snoc hvn HVR.out).length_le
          go_roundg (n - (o.length + 1))
          case measure =>
            rw [HM.out]
            simp at hol2
            omega
          case rel =>
            refine ⟨o ++ [v], HSO.out.snoc hvn HVR.out, ?_, by simpa using hown6, (hfr1.alloc _).grown hg6 (fun y hy => .inr (own_block HOWN1.out hy).1), ?_, by simp⟩
            · have h1 : FA w6 gg 4 bv n (fun j => if j = v then true else decide (j ∈ o)) := (HFA1.out.fr0 ((Fr.refl [] w5).alloc _)).fr (Fr.of_grown hg6) (fun hm => by
                cases hvb : (Value.slice A6 o.length c6).ownBlock with
                | none => rw [hvb] at hm; cases hm
                | some y =>
                  rw [hvb] at hm
                  obtain ⟨_, _, cs, hb⟩ := own_block HOWN1.out hvb
                  exact Blk.ne_ hb HFA1.out (by decide) (List.mem_singleton.1 hm).symm)
              refine h1.congr (fun u _ => ?_)
              by_cases e : u = v
              · simp [e]
              · simp [e]
            · rw [← HGR.out, greedyF_step HPK.out (by simp at hol2; omega)]
              simp
              rfl
end Go.Proofs.Ytinengemeppefaa

