/- Walks: depgraph.Cycle. -/
import Derived.Test.YtnfhiadhpbojkaaGraW3Mg
import Derived.Test.YtnfhiadhpbojkaaGraM4Mg
import Derived.Test.YtnfhiadhpbojkaaMgDepgraphMinimal7
namespace Go.Proofs.Ytnfhiadhpbojkaa
open Go.RowKit

def toI (l : List Nat) : List Int := l.map fun n : Nat => (n : Int)
theorem toI_cells (l : List Nat) : (toI l).map (Value.int .i64) = l.map nv := by simp [toI, nv]
theorem toI_length (l : List Nat) : (toI l).length = l.length := by simp [toI]
theorem toI_mem {l : List Nat} {v : Nat} : (v : Int) ∈ toI l ↔ v ∈ l := by
  unfold toI
  rw [List.mem_map]
  constructor
  · rintro ⟨a, ha, e⟩
    have : a = v := by omega
    rw [← this]; exact ha
  · exact fun h => ⟨v, h, rfl⟩
theorem idxI_idxOf {l : List Nat} {v : Nat} (h : v ∈ l) : idxI (toI l) (v : Int) = (l.idxOf v : Int) := by
  have hl := List.idxOf_lt_length_of_mem h
  refine idxI_some (k := l.idxOf v) ?_ ?_
  · unfold toI
    rw [List.getElem?_map, List.getElem?_eq_getElem hl, List.getElem_idxOf hl]
    rfl
  · intro hm
    have h2 : (l.map fun n : Nat => (n : Int)).take (l.idxOf v) = (l.take (l.idxOf v)).map fun n : Nat => (n : Int) := by rw [List.map_take]
    unfold toI at hm
    rw [h2] at hm
    obtain ⟨a, ha, e⟩ := List.mem_map.1 hm
    have : a = v := by omega
    subst this
    rw [List.mem_iff_getElem?] at ha
    obtain ⟨j, hj⟩ := ha
    rw [List.getElem?_take] at hj
    split at hj
    · rename_i hlt
      have h3 := List.not_of_lt_findIdx (p := (· == a)) (xs := l) (i := j) hlt
      rw [List.getElem?_eq_getElem (by omega)] at hj
      injection hj with hj
      simp [hj] at h3
    · cases hj
theorem contains_nats (A : Option Addr) (cp : Nat) (l : List Nat) (x : Nat) (w : World) (hr : Row w A (l.map nv)) (hn : l.length ≤ 4096) :
    Calls Try.prog 40 #[.slice A l.length cp, .int .i64 x] w fun e w' => e = .returned (.bool (decide (x ∈ l))) ∧ w = w' := by
  have := containsInts_any A cp (toI l) x w (by rw [toI_cells]; exact hr) (by rw [toI_length]; exact hn)
  rw [toI_length] at this
  refine this.mono fun e w' ⟨h1, h2⟩ => ⟨?_, h2⟩
  rw [h1]
  exact ret_bool (decide_eq_decide.2 toI_mem)
theorem index_nats (A : Option Addr) (cp : Nat) (l : List Nat) (x : Nat) (w : World) (hr : Row w A (l.map nv)) (hn : l.length ≤ 4096) (hx : x ∈ l) :
    Calls Try.prog 42 #[.slice A l.length cp, .int .i64 x] w fun e w' => e = .returned (.int .i64 (l.idxOf x)) ∧ w = w' := by
  have := indexInts_any A cp (toI l) x w (by rw [toI_cells]; exact hr) (by rw [toI_length]; exact hn)
  rw [toI_length] at this
  refine this.mono fun e w' ⟨h1, h2⟩ => ⟨?_, h2⟩
  rw [h1]
  exact ret_int (idxI_idxOf hx)

def CyRel1 (w1 : World) (rg n : Nat) (o : List Nat) (m : Nat) (i : Value) (wr : World) : Prop :=
  ∃ k : Nat, k ≤ o.length ∧ i = .int .i64 k ∧ FA wr rg 4 bv n (fun u => decide (u ∈ o.take k)) ∧ Fr [rg] w1 wr ∧ m = o.length - k
def CyRel2 (w1 : World) (ng n : Nat) (m : Nat) (i : Value) (wr : World) : Prop :=
  ∃ k : Nat, k ≤ n ∧ i = .int .i64 k ∧ FA wr ng 3 iv n (fun u => if u < k then -1 else 0) ∧ Fr [] w1 wr ∧ m = n - k
def CyRel3 (w1 : World) (ng n : Nat) (l : List (Int × Int)) (o : List Nat) (m : Nat) (i : Value) (wr : World) : Prop :=
  ∃ k : Nat, k ≤ l.length ∧ i = .int .i64 k ∧ FA wr ng 3 iv n (nxI (-1) (toNs (l.take k)) o) ∧ Fr [] w1 wr ∧ m = l.length - k
def CyRel4 (w1 : World) (base n : Nat) (L : List (Nat × Nat)) (o : List Nat) (v0 : Nat) (m : Nat) (s10 s15 : Value) (wr : World) : Prop :=
  ∃ (wk : List Nat) (v : Nat), s10 = .int .i64 v ∧ v < n ∧ v ∉ o ∧ (∀ u ∈ wk, u < n) ∧ wk.Nodup ∧ wr.ownsRow base 3 1 s15 wk.length (wk.map nv) ∧ Fr [] w1 wr ∧
    cycF (nx L o) (n + 1 - wk.length) wk v = cycF (nx L o) (n + 1) [] v0 ∧ m = n - wk.length
def CycRet (w : World) (n : Int) (l : List (Int × Int)) (e : Ending) (w' : World) : Prop :=
  ∃ v, e = .returned (.tuple #[v, .int .i64 (cycleM n l).2]) ∧ w'.ownsRow w.heap.size 3 1 v (cycleM n l).1.length ((cycleM n l).1.map nv) ∧ Fr [] w w'

set_option maxHeartbeats 8000000 in
theorem cycle_any24 (n : Int) (A : Option Addr) (cp : Nat) (l : List (Int × Int)) (w : World) (hr : Row w A (pcs l)) (hm : l.length ≤ 4096) :
    Calls Try.prog 20 #[.int .i64 n, .slice A l.length cp] w (CycRet w n l) := by
  obtain ⟨i0, hi0, hz0, hz1, hz2⟩ := info_parts int_info1
  have HI := hide (And.intro hi0 (And.intro hz0 (And.intro hz1 hz2)))
  have HR := hide hr
  clear hr hi0 hz0 hz1 hz2
  go_enter Try.func20, Try.ntmps20
  go_wp2_with fail
  refine (checkLinks_any n A cp l w HR.out hm).mono ?_
  rintro e w1 ⟨rfl, hf1⟩
  by_cases hb : basicM n l = 0
  · obtain ⟨hok, hnd⟩ := basicM_zero hb
    obtain ⟨N, rfl⟩ := Int.eq_ofNat_of_zero_le hok.1
    rw [hb]
    have HB := hide hb
    have hN : N ≤ 128 := by have := hok.2.1; omega
    have hl1 : l.length ≤ 1024 := hok.2.2.1
    have HOK := hide hok
    have HLT := hide (toNs_lt hok.2.2.2)
    have hmk := make_bools N N (Nat.le_refl _) (by omega)
    have hnew := FA.new w1 4 bv false N
    have hfr2 : Fr [] w (w1.alloc (.cells (Array.replicate N (.bool false)) 4)) := hf1.alloc _
    clear hb hok hnd
    go_wp2_with fail
    generalize (w1.alloc (.cells (Array.replicate N (.bool false)) 4)) = w2 at hnew hfr2 ⊢
    obtain ⟨rg, hrg⟩ : ∃ rg, rg = w1.heap.size := ⟨_, rfl⟩
    have hrw : w.heap.size ≤ rg := by have := hf1.size; omega
    rw [← hrg] at hnew ⊢
    clear hrg hmk
    refine (sequence_any N A cp l w2 (HR.out.fr0 hfr2) HOK.out).mono ?_
    rintro e w3 ⟨v, rfl, hown, hf3⟩
    have hgo := greedy_ok N (toNs l)
    obtain ⟨L, hL⟩ : ∃ L, L = toNs l := ⟨_, rfl⟩
    rw [← hL] at hown hgo HLT
    obtain ⟨o, ho⟩ : ∃ o, o = greedy N L := ⟨_, rfl⟩
    rw [← ho] at hown hgo
    have hol := hgo.length_le
    obtain ⟨A2, c2, rfl, -, hro, -⟩ := own_slice hown
    have HRO := hide hro
    have hoff : Off A2 [rg] := fun ad e => by
      subst e
      obtain ⟨_, _, cs', h'⟩ := own_block hown (g := ad.block) rfl
      have := Blk.ne_ h' (hnew.fr0 hf3) (by decide)
      simpa using this
    have HOFF := hide hoff
    clear hoff
    have HGO := hide hgo
    have HO := hide ho
    have HL := hide hL
    have HNEW := hide (hnew.fr0 hf3)
    have hf4 := hfr2.call hf3
    clear ho hown hro hgo hL hnew hfr2 hf3
    go_wp2
    go_loopg [28] o.length (fun m i wr => CyRel1 w3 rg N o m i wr)
    case atStart => exact ⟨0, by omega, rfl, HNEW.out.congr (fun u _ => by simp), Fr.refl _ _, rfl⟩
    case round =>
      clear HNEW
      obtain ⟨k, hk, rfl, hfa, hfr, hmm⟩ := hrel
      have HM := hide hmm
      have HFA := hide hfa
      clear hmm hfa
      have hfw := hf4.step hfr (fun i hi => .inr (by rw [List.mem_singleton.1 hi]; exact hrw))
      by_cases hlt : k < o.length
      · obtain ⟨u, hu⟩ : ∃ u, o[k]? = some u := ⟨_, List.getElem?_eq_getElem hlt⟩
        obtain ⟨ob, oo, e, c1⟩ := (HRO.out.fr hfr HOFF.out).at_ (i := k) (u := nv u) (by simp [hu])
        subst e
        have hun := HGO.out.lt u (List.mem_of_getElem? hu)
        have hkl : (k : Int) < (o.length : Int) := by omega
        have hui : (u : Int) < (N : Int) := by omega
        have hc1 := HFA.out.cell hun
        have hc2 := HFA.out.frozen u
        have HU := hide (take_succ_some hu)
        clear hu
        go_wp2
        go_roundg (o.length - (k + 1))
        case measure => rw [HM.out]; omega
        case rel =>
          refine ⟨k + 1, by omega, by go_num, ?_, hfr.set (.inl (by simp)) _, rfl⟩
          refine (HFA.out.set_ u true).congr (fun t _ => ?_)
          rw [HU.out]
          by_cases e : t = u <;> simp [e]
      · have hkl : ¬ (k : Int) < (o.length : Int) := by omega
        obtain ⟨wo, rfl⟩ : ∃ wo : World, wo = wr := ⟨_, rfl⟩
        have hfa := HFA.out
        rw [List.take_of_length_le (by omega)] at hfa
        have HRM := hide hfa
        clear hfa HFA
        go_wp2_with fail
        have hidx := indexBools_any (some ⟨rg, 0, none⟩) N ((List.range N).map (fun u => decide (u ∈ o))) false wo (by simpa using HRM.out.row) (by simp; omega)
        rw [List.length_map, List.length_range] at hidx
        refine hidx.mono ?_
        clear hidx
        rintro e w5 ⟨rfl, rfl⟩
        cases hfl : firstLeft N o with
        | none =>
          have hi : idxI ((List.range N).map (fun u => decide (u ∈ o))) false = -1 := idxI_none (fun h => by
            obtain ⟨v, hv, e⟩ := List.mem_map.1 h
            exact absurd (firstLeft_none.1 hfl v (List.mem_range.1 hv)) (of_decide_eq_false e))
          rw [hi]
          rw [HO.out, HL.out] at hfl
          have HM1 := hide (cycleM_none HB.out hfl)
          clear hi hfl
          go_wp2
          go_ret2
          exact ⟨.slice none 0 0, by rw [HM1.out]; rfl, by rw [HM1.out]; exact own_nil _ _ _ _, hfw⟩
        | some v0 =>
          obtain ⟨hv0, hvn, hvm⟩ := firstLeft_some.1 hfl
          have hi : idxI ((List.range N).map (fun u => decide (u ∈ o))) false = (v0 : Int) := idxI_some (by simp [hv0, hvn]) (fun h => by
            rw [List.mem_iff_getElem?] at h
            obtain ⟨j, hj⟩ := h
            rw [List.getElem?_take] at hj
            split at hj
            · rename_i hjq
              rw [List.getElem?_map, List.getElem?_range (by omega)] at hj
              injection hj with hj
              exact of_decide_eq_false hj (hvm j hjq)
            · cases hj)
          rw [hi]
          rw [HO.out, HL.out] at hfl
          have HM1 := hide (cycleM_some HB.out hfl)
          rw [← HL.out, ← HO.out] at HM1
          have HVN := hide hvn
          have hmk := make_ints N N (Nat.le_refl _) (by omega)
          have hnew := FA.new wo 3 iv 0 N
          have hfr6 : Fr [] wo (wo.alloc (.cells (Array.replicate N (.int .i64 0)) 3)) := (Fr.refl _ _).alloc _
          clear hi hfl hvn hvm
          go_wp2
          generalize (wo.alloc (.cells (Array.replicate N (.int .i64 0)) 3)) = w6 at hnew hfr6 ⊢
          obtain ⟨ng, hng⟩ : ∃ ng, ng = wo.heap.size := ⟨_, rfl⟩
          have hnw : wo.heap.size ≤ ng := by omega
          rw [← hng] at hnew ⊢
          clear hng hmk
          go_loopg [44] N (fun m i wr => CyRel2 wo ng N m i wr)
          case atStart => exact ⟨0, by omega, rfl, hnew.congr (fun u _ => by simp), hfr6, rfl⟩
          case round =>
            clear hnew hfr6 HM
            obtain ⟨k, hk, rfl, hfa, hfi, hmm⟩ := hrel
            have HM := hide hmm
            have HFA := hide hfa
            clear hmm hfa
            by_cases hlt : k < N
            · have hkl : (k : Int) < (N : Int) := by omega
              have hc1 := HFA.out.cell hlt
              have hc2 := HFA.out.frozen k
              rw [if_neg (by omega)] at hc1
              go_wp2
              go_roundg (N - (k + 1))
              case measure => rw [HM.out]; omega
              case rel =>
                refine ⟨k + 1, by omega, by go_num, (HFA.out.set_ k (-1)).congr (fun t _ => ?_), hfi.set (.inr hnw) _, rfl⟩
                by_cases e : t = k
                · simp [e]
                · by_cases e2 : t < k
                  · have : t < k + 1 := by omega
                    simp [e, e2, this]
                  · have : ¬ t < k + 1 := by omega
                    simp [e, e2, this]
            · have hkl : ¬ (k : Int) < (N : Int) := by omega
              have hfa := HFA.out.congr (f' := nxI (-1) (toNs (l.take 0)) o) (fun u hu => by rw [if_pos (by omega)]; simp [toNs, nxI])
              have HFB := hide hfa
              clear hfa HFA HM
              go_wp2
              go_loopg [53] l.length (fun m i wr => CyRel3 wo ng N l o m i wr)
              case atStart => exact ⟨0, by omega, rfl, HFB.out, hfi, rfl⟩
              case round =>
                clear HFB hfi
                obtain ⟨k, hk, rfl, hfa, hfi, hmm⟩ := hrel
                have HM := hide hmm
                have HFA := hide hfa
                clear hmm hfa
                by_cases hlt : k < l.length
                · obtain ⟨p, hp⟩ : ∃ p, l[k]? = some p := ⟨_, List.getElem?_eq_getElem hlt⟩
                  obtain ⟨ob, oo, e, c1, c2⟩ := (HR.out.fr0 (hfw.call hfi)).link hp
                  subst e
                  have hpo := HOK.out.2.2.2 p (List.mem_of_getElem? hp)
                  have HP := hide (take_succ_some hp)
                  clear hp
                  have hkl : (k : Int) < (l.length : Int) := by omega
                  obtain ⟨c, s⟩ := p
                  simp only at c1 c2
                  unfold LinkOk at hpo
                  simp only at hpo
                  obtain ⟨q1, q2, q3, q4⟩ := hpo
                  obtain ⟨c, rfl⟩ := Int.eq_ofNat_of_zero_le q1
                  obtain ⟨s, rfl⟩ := Int.eq_ofNat_of_zero_le q3
                  obtain ⟨K, hK⟩ : ∃ K, K = toNs (l.take k) := ⟨_, rfl⟩
                  rw [← hK] at HFA
                  have HP2 : Hid (∀ v, nxI (-1) (toNs (l.take (k + 1))) o v = nxS (-1) o v (nxI (-1) K o v) (c, s)) := hide (fun v => by
                    rw [HP.out, hK]
                    simp only [toNs, List.map_append, List.map_cons, List.map_nil]
                    rw [nxI_snoc]
                    rfl)
                  have hsp := nxI_spec (z := -1) (o := o) (v := c) (fun s _ => by omega) K.length K rfl (fun q hq => by
                    rw [hK] at hq
                    obtain ⟨q', hq', rfl⟩ := List.mem_map.1 hq
                    have := HOK.out.2.2.2 q' (List.mem_of_mem_take hq')
                    unfold LinkOk at this
                    simp only [toN]
                    omega)
                  have hrange : nxI (-1) K o c = -1 ∨ 0 ≤ nxI (-1) K o c := by
                    rcases hsp with ⟨h, _⟩ | ⟨s, h, _⟩
                    · exact .inl h
                    · exact .inr (by omega)
                  clear hK HP hsp
                  have hfx := (Fr.refl [] wr).alloc (.cells #[.int .i64 (c : Int), .int .i64 (s : Int)] 34)
                  have hf1 := HFA.out.fr0 hfx
                  have hc1 := hf1.cell (i := c) (by omega)
                  have hc2 := hf1.frozen c
                  have hr1 := ((HRM.out.fr0 hfi).fr0 hfx).cell (i := s) (by omega)
                  have hbx := Blk.new wr 34 #[.int .i64 (c : Int), .int .i64 (s : Int)]
                  have hfi2 := hfi.alloc (.cells #[.int .i64 (c : Int), .int .i64 (s : Int)] 34)
                  have HF1 := hide hf1
                  have hsi : (s : Int) < (N : Int) := by omega
                  have hci : (c : Int) < (N : Int) := by omega
                  clear hf1 hfx
                  go_wp2
                  generalize (wr.alloc (.cells #[.int .i64 (c : Int), .int .i64 (s : Int)] 34)) = wx at hc1 hc2 hr1 hbx hfi2 HF1 ⊢
                  generalize wr.heap.size = xb at hbx ⊢
                  have d1 : wx.cell? ⟨xb, 0, none⟩ = some (.int .i64 (c : Int)) := hbx.cell 0
                  have d2 : wx.cell? ⟨xb, 1, none⟩ = some (.int .i64 (s : Int)) := hbx.cell 1
                  clear hbx
                  generalize hx : nxI (-1) K o c = x at hc1 hrange
                  have HX := hide hx
                  clear hx
                  cases hso : decide (s ∈ o) with
                  | true =>
                    rw [hso] at hr1
                    have HSO := hide (of_decide_eq_true hso)
                    clear hso
                    go_quiet (fail)
                    go_wp2
                    go_roundg (l.length - (k + 1))
                    case measure => rw [HM.out]; omega
                    case rel =>
                      refine ⟨k + 1, by omega, by go_num, (HF1.out.fr0 ((Fr.refl [] _).drewN _)).congr (fun t _ => ?_), hfi2.drewN _, rfl⟩
                      rw [HP2.out]
                      unfold nxS
                      rw [if_neg (fun h => h.2.1 HSO.out)]
                  | false =>
                    rw [hso] at hr1
                    have HSO := hide (of_decide_eq_false hso)
                    clear hso
                    by_cases hx0 : x < 0
                    · have hxe : x = -1 := by omega
                      subst hxe
                      go_quiet (fail)
                      go_wp2
                      go_roundg (l.length - (k + 1))
                      case measure => rw [HM.out]; omega
                      case rel =>
                        refine ⟨k + 1, by omega, by go_num, ?_, ?_, rfl⟩
                        · refine ((HF1.out.set_ c (s : Int)).fr0 ((Fr.refl [] _).drewN _)).congr (fun t _ => ?_)
                          rw [HP2.out]
                          unfold nxS
                          by_cases e : t = c
                          · subst e
                            rw [if_pos rfl, HX.out, if_pos ⟨rfl, HSO.out, .inl rfl⟩]
                          · rw [if_neg e, if_neg (fun h => e h.1.symm)]
                        · exact (hfi2.set (.inr hnw) _).drewN _
                    · have hxb : decide (x < 0) = false := by simp; omega
                      by_cases hsx : (s : Int) < x
                      · have hsb : decide ((s : Int) < x) = true := by simp; omega
                        go_quiet (fail)
                        go_wp2
                        go_roundg (l.length - (k + 1))
                        case measure => rw [HM.out]; omega
                        case rel =>
                          refine ⟨k + 1, by omega, by go_num, ?_, ?_, rfl⟩
                          · refine ((HF1.out.set_ c (s : Int)).fr0 ((Fr.refl [] _).drewN _)).congr (fun t _ => ?_)
                            rw [HP2.out]
                            unfold nxS
                            by_cases e : t = c
                            · subst e
                              rw [if_pos rfl, HX.out, if_pos ⟨rfl, HSO.out, .inr hsx⟩]
                            · rw [if_neg e, if_neg (fun h => e h.1.symm)]
                          · exact (hfi2.set (.inr hnw) _).drewN _
                      · have hsb : decide ((s : Int) < x) = false := by simp; omega
                        go_quiet (fail)
                        go_wp2
                        go_roundg (l.length - (k + 1))
                        case measure => rw [HM.out]; omega
                        case rel =>
                          refine ⟨k + 1, by omega, by go_num, (HF1.out.fr0 ((Fr.refl [] _).drewN _)).congr (fun t _ => ?_), hfi2.drewN _, rfl⟩
                          rw [HP2.out]
                          unfold nxS
                          by_cases e : t = c
                          · subst e
                            rw [HX.out, if_neg]
                            rintro ⟨-, -, h | h⟩
                            · omega
                            · omega
                          · rw [if_neg (fun h => e h.1.symm)]
                · have hkl : ¬ (k : Int) < (l.length : Int) := by omega
                  have hfa := HFA.out
                  rw [List.take_of_length_le (by omega), ← HL.out] at hfa
                  have HNX := hide hfa
                  clear hfa HFA HM
                  obtain ⟨wz, rfl⟩ : ∃ wz : World, wz = wr := ⟨_, rfl⟩
                  have hfz := hfw.call hfi
                  have hnz := HNX.out.lt
                  go_wp2
                  go_loopg [10, 15] N (fun m s10 s15 wr => CyRel4 wz wz.heap.size N L o v0 m s10 s15 wr)
                  case atStart => exact ⟨[], v0, rfl, hv0, HVN.out, by simp, by simp, own_nil _ _ _ _, Fr.refl _ _, by simp, by simp⟩
                  case round =>
                    obtain ⟨wk, v, rfl, hvN, hvo, hwk, hwn, hown, hfc, hcy, hmm⟩ := hrel
                    have hwl := nodup_length_le hwk hwn
                    obtain ⟨A5, c5, rfl, -, hrw5, -⟩ := own_slice hown
                    have HM := hide hmm
                    have HVO := hide hvo
                    have HWK := hide hwk
                    have HWN := hide hwn
                    have HOWN := hide hown
                    have HCY := hide hcy
                    have HR5 := hide hrw5
                    clear hmm hvo hwk hwn hown hcy hrw5
                    go_wp2_with fail
                    refine (contains_nats A5 c5 wk v wr HR5.out (by omega)).mono ?_
                    rintro e w7 ⟨rfl, rfl⟩
                    by_cases hin : v ∈ wk
                    · rw [decide_eq_true hin]
                      have HIN := hide hin
                      have hil := List.idxOf_lt_length_of_mem hin
                      clear hin
                      go_wp2_with fail
                      refine (index_nats A5 c5 wk v wr HR5.out (by omega) HIN.out).mono ?_
                      rintro e w8 ⟨rfl, rfl⟩
                      have hcF : cycF (nx L o) (N + 1) [] v0 = wk.drop (wk.idxOf v) := by
                        rw [← HCY.out, show N + 1 - wk.length = (N - wk.length) + 1 by omega, cycF, if_pos HIN.out]
                      generalize wk.idxOf v = q at hil hcF ⊢
                      have HCF := hide hcF
                      clear hcF
                      obtain ⟨g5, e5, hcap⟩ : ∃ g5, A5 = some ⟨g5, 0, none⟩ ∧ wk.length ≤ c5 := by
                        rcases HOWN.out.2 with ⟨-, h0⟩ | ⟨g5, cap, cur, hv, -, -, hnc, -⟩
                        · omega
                        · injection hv with h1 _ h3
                          exact ⟨g5, h1, by omega⟩
                      subst e5
                      have hrd : Row wr (some ⟨g5, q, none⟩) ((wk.drop q).map nv) := fun hl => by
                        refine ⟨g5, q, rfl, fun i u hu => ?_⟩
                        have h1 : (wk.map nv)[q + i]? = some u := by rw [← hu]; simp [List.getElem?_drop]
                        obtain ⟨ob, oo, e, hc⟩ := HR5.out.at_ h1
                        cases e
                        simpa using hc
                      have HRD := hide hrd
                      have hq1 : (q : Int) ≤ (wk.length : Int) := by omega
                      have hq2 : (wk.length : Int) ≤ (c5 : Int) := by omega
                      have hq3 : ¬ c5 = q := by omega
                      have hq4 : (q : Int) ≤ (c5 : Int) := by omega
                      clear hrd
                      go_wp2_with fail
                      refine (clone_n (some ⟨g5, q, none⟩) (c5 - q) (wk.length - q) ((wk.drop q).map nv) wr (by simp) HRD.out (by intro u hu; obtain ⟨d, _, rfl⟩ := List.mem_map.1 hu; rfl) (by omega) (fun e => by cases e)).mono ?_
                      rintro e w9 ⟨v9, rfl, hown9, hf9⟩
                      go_wp2
                      go_ret2
                      have hff := (hfz.call hfc).call hf9
                      refine ⟨v9, by rw [HM1.out]; rfl, ?_, hff⟩
                      rw [HM1.out, HCF.out, List.length_drop]
                      exact own_base hown9 (Nat.le_trans hfz.size hfc.size)
                    · rw [decide_eq_false hin]
                      have HIN := hide hin
                      clear hin
                      obtain ⟨hn1, hn2, hn3, hn4⟩ := nx_next hN HLT.out hvN (by rw [← HO.out]; exact HVO.out)
                      rw [← HO.out] at hn1 hn3 hn4
                      have hcF : cycF (nx L o) (N + 1 - wk.length) wk v = cycF (nx L o) (N + 1 - (wk.length + 1)) (wk ++ [v]) (nx L o v) := by
                        rw [show N + 1 - wk.length = (N - wk.length) + 1 by omega, cycF, if_neg HIN.out, show N + 1 - (wk.length + 1) = N - wk.length by omega]
                      have hwn2 : (wk ++ [v]).Nodup := by
                        rw [List.nodup_append]
                        exact ⟨HWN.out, by simp, fun a ha b hb => by rw [List.mem_singleton.1 hb]; rintro rfl; exact HIN.out ha⟩
                      have hwk2 : ∀ u ∈ wk ++ [v], u < N := fun u hu => by
                        rcases List.mem_append.1 hu with h | h
                        · exact HWK.out u h
                        · rw [List.mem_singleton.1 h]; exact hvN
                      have hwl2 := nodup_length_le hwk2 hwn2
                      rw [List.length_append, List.length_singleton] at hwl2
                      have HN4 := hide hn4
                      have HCF := hide hcF
                      have HW2 := hide hwk2
                      have HD2 := hide hwn2
                      have hcx : wz.cell? ⟨ng, v, none⟩ = some (.int .i64 (nx L o v : Int)) := by
                        have := HNX.out.cell hvN
                        rwa [hn1] at this
                      clear hn1 hn2 hn4 hcF hwk2 hwn2
                      generalize nx L o v = u at hn3 HN4 HCF hcx
                      have hsz : wz.heap.size ≤ wr.heap.size + 1 := by have := hfc.size; omega
                      have hvi : (v : Int) < (N : Int) := by omega
                      go_upto_region 28 with (first
                        | (at_builtin
                           refine wpList_append_row _ rfl (.tmp 92) (.tmp 94) _ rfl wz.heap.size 3 i0 (.int .i64 0) 1 8 Try.underlying26 HI.out.1 HI.out.2.1 HI.out.2.2.1 HI.out.2.2.2 rfl (by omega) (.slice A5 wk.length c5) wk.length (wk.map nv) rfl
                             (own_fr HOWN.out ((Fr.refl [] _).alloc _) (fun _ _ => by simp)) (some ⟨wr.heap.size, 0, none⟩) 1 1 [.int .i64 (v : Int)] rfl rfl (row_one wr _ _) (by intro u hu; simp at hu; subst hu; rfl) (by simp only [maxLen]; omega) (by omega) (by simpa using hsz) ?_
                           intro v1 w9 hown9 hg9 hat9))
                      have hf9 : Fr [] wz w9 := (hfc.alloc _).grown hg9 (fun y hy => .inr (own_block HOWN.out hy).1)
                      have hcx9 := hf9.cell hcx (by simp)
                      clear hcx hg9 hat9
                      go_wp2
                      go_roundg (N - (wk.length + 1))
                      case measure => rw [HM.out]; omega
                      case rel => exact ⟨wk ++ [v], u, rfl, hn3, HN4.out, HW2.out, HD2.out, by simpa using hown9, hf9, by rw [List.length_append, List.length_singleton, ← HCF.out]; exact HCY.out, by simp⟩
  · have hne : (basicM n l != 0) = true := by simp [hb]
    have HM1 := hide (cycleM_bad hb)
    clear hb
    go_wp2
    go_ret2
    exact ⟨.slice none 0 0, by rw [HM1.out]; rfl, by rw [HM1.out]; exact own_nil _ _ _ _, hf1⟩
end Go.Proofs.Ytnfhiadhpbojkaa

