/- Walks: resume.Makespan, resume.CriticalPath, law31.durations, help.Equal at slots. -/
import Derived.Test.YtinengemeppefaaMgResumeVerify5
namespace Go.Proofs.Ytinengemeppefaa
open Go.RowKit

def EqRelS {α : Type} (w : World) (la lb : List α) (m : Nat) (i : Value) (wr : World) : Prop := ∃ k : Nat, k ≤ la.length ∧ i = .int .i64 k ∧ la.take k = lb.take k ∧ Fr [] w wr ∧ m = la.length - k
theorem uv_mod3 (k : Nat) : uv (k % 3) = .int .u64 ((k : Int) % 3) := by simp [uv]
theorem uv_mod12 (k : Nat) : uv (k % 12) = .int .u64 ((k : Int) % 12) := by simp [uv]
def mkR (sl : List RSl) : Nat := sl.foldl (fun b x => max b x.e) 0
theorem mkR_toR (sl : List Slt) : mkR (sl.map toR) = mkspan sl := by
  unfold mkR mkspan
  rw [List.foldl_map]
  rfl
theorem mkR_snoc (sl : List RSl) (x : RSl) : mkR (sl ++ [x]) = max (mkR sl) x.e := by simp [mkR]
def MkRel (w : World) (sl : List RSl) (m : Nat) (v i : Value) (wr : World) : Prop := ∃ k : Nat, k ≤ sl.length ∧ v = .int .u64 (mkR (sl.take k) : Int) ∧ i = .int .i64 k ∧ Fr [] w wr ∧ m = sl.length - k
set_option maxHeartbeats 1000000 in
theorem makespan31_any (A : Option Addr) (cp : Nat) (sl : List RSl) (w : World) (hr : Row w A (rcells sl)) (hm : sl.length ≤ 4096) :
    Calls Try.prog 21 #[.slice A sl.length cp] w fun e w' => e = .returned (.int .u64 (mkR sl : Int)) ∧ Fr [] w w' := by
  have HR := hide hr
  clear hr
  go_enter Try.func21, Try.ntmps21
  go_wp2
  go_loopg [3, 8] sl.length (fun m v i wr => MkRel w sl m v i wr)
  case atStart => exact ⟨0, by omega, rfl, rfl, Fr.refl _ _, rfl⟩
  case round =>
    obtain ⟨k, hk, rfl, rfl, hfr, hmm⟩ := hrel
    have HM := hide hmm
    clear hmm
    by_cases hlt : k < sl.length
    · obtain ⟨x, hx⟩ : ∃ x, sl[k]? = some x := ⟨_, List.getElem?_eq_getElem hlt⟩
      obtain ⟨ob, oo, rfl, c0, c1, c2, c3⟩ := (HR.out.fr0 hfr).slot hx
      have hkl : (k : Int) < (sl.length : Int) := by omega
      have HX := hide (mkR_snoc (sl.take k) x)
      rw [← take_succ_some hx] at HX
      clear hx
      generalize mkR (sl.take k) = t at HX ⊢
      obtain ⟨d, wk, s, e⟩ := x
      simp only at c0 c1 c2 c3 HX
      by_cases hle : t ≤ e
      · have hle' : (t : Int) ≤ (e : Int) := by omega
        have hmx : max t e = e := by omega
        rw [hmx] at HX
        clear hmx hle
        go_wp2
        all_goals
          go_roundg (sl.length - (k + 1))
          case measure => rw [HM.out]; omega
          case rel => exact ⟨k + 1, by omega, by first | (rw [HX.out]; done) | (rw [HX.out]; congr 1; omega), by go_num, hfr.alloc _, rfl⟩
      · have hle' : ¬ (t : Int) ≤ (e : Int) := by omega
        have hmx : max t e = t := by omega
        rw [hmx] at HX
        clear hmx hle
        go_wp2
        all_goals
          go_roundg (sl.length - (k + 1))
          case measure => rw [HM.out]; omega
          case rel => exact ⟨k + 1, by omega, by first | (rw [HX.out]; done) | (rw [HX.out]; congr 1; omega), by go_num, hfr.alloc _, rfl⟩
    · have hkl : ¬ (k : Int) < (sl.length : Int) := by omega
      rw [List.take_of_length_le (by omega)]
      go_wp2
      go_ret
      exact ⟨rfl, hfr⟩
set_option maxHeartbeats 2000000 in
theorem equalSlots_any (A B : Option Addr) (cp cq : Nat) (la lb : List RSl) (w : World) (ha : Row w A (rcells la)) (hb : Row w B (rcells lb)) (hn : la.length ≤ 4096) :
    Calls Try.prog 20 #[.slice A la.length cp, .slice B lb.length cq] w fun e w' => e = .returned (.bool (decide (la = lb))) ∧ Fr [] w w' := by
  have HA := hide ha
  have HB := hide hb
  clear ha hb
  by_cases hl : la.length = lb.length
  · have hne : ((la.length : Int) != (lb.length : Int)) = false := by simp [hl]
    have HL := hide hl
    clear hl
    go_enter Try.func20, Try.ntmps20
    go_wp2
    go_loopg [5] la.length (fun n i wr => EqRelS w la lb n i wr)
    case atStart => exact ⟨0, Nat.zero_le _, rfl, rfl, Fr.refl _ _, rfl⟩
    case round =>
      obtain ⟨k, hk, rfl, heq, hfr, hmm⟩ := hrel
      have HEQ := hide heq
      have HM := hide hmm
      clear heq hmm
      by_cases hlt : k < la.length
      · have hlt2 : k < lb.length := by rw [← HL.out]; exact hlt
        obtain ⟨pa, hpa⟩ : ∃ pa, la[k]? = some pa := ⟨_, List.getElem?_eq_getElem hlt⟩
        obtain ⟨pb, hpb⟩ : ∃ pb, lb[k]? = some pb := ⟨_, List.getElem?_eq_getElem hlt2⟩
        obtain ⟨ob, oo, rfl, c0, c1, c2, c3⟩ := (HA.out.fr0 hfr).slot hpa
        obtain ⟨ob', oo', rfl, d0, d1, d2, d3⟩ := (HB.out.fr0 hfr).slot hpb
        have HPA := hide hpa
        have HPB := hide hpb
        have hk1 : (k : Int) < (la.length : Int) := by omega
        have hk2 : (k : Int) < (lb.length : Int) := by omega
        have hdis : pa ≠ pb → la ≠ lb := fun hne e => hne (by
          rw [e, hpb] at hpa
          injection hpa with h
          exact h.symm)
        clear hpa hpb
        have HDIS := hide hdis
        clear hdis
        obtain ⟨a0, a1, a2, a3⟩ := pa
        obtain ⟨b0, b1, b2, b3⟩ := pb
        simp only at c0 c1 c2 c3 d0 d1 d2 d3
        by_cases e0 : a0 = b0
        · subst e0
          by_cases e1 : a1 = b1
          · subst e1
            by_cases e2 : a2 = b2
            · subst e2
              by_cases e3 : a3 = b3
              · subst e3
                go_wp2
                go_quiet (fail)
                go_wp2
                go_roundg (la.length - (k + 1))
                case measure => rw [HM.out]; omega
                case rel =>
                  refine ⟨k + 1, by omega, by go_num, ?_, hfr.drewN _, rfl⟩
                  rw [List.take_add_one, List.take_add_one, HPA.out, HPB.out, HEQ.out]
              · have hx : ¬ (a3 : Int) = (b3 : Int) := by omega
                have HNE := hide (HDIS.out (by simp [e3]))
                clear e3
                go_wp2
                go_quiet (fail)
                go_wp2
                go_ret
                exact ⟨ret_bool (decide_eq_false HNE.out).symm, hfr.drewN _⟩
            · have hx : ¬ (a2 : Int) = (b2 : Int) := by omega
              have HNE := hide (HDIS.out (by simp [e2]))
              clear e2
              go_wp2
              go_quiet (fail)
              go_wp2
              go_ret
              exact ⟨ret_bool (decide_eq_false HNE.out).symm, hfr.drewN _⟩
          · have HNE := hide (HDIS.out (by simp [e1]))
            go_wp2
            go_quiet (fail)
            go_wp2
            go_ret
            exact ⟨ret_bool (decide_eq_false HNE.out).symm, hfr.drewN _⟩
        · have HNE := hide (HDIS.out (by simp [e0]))
          go_wp2
          go_quiet (fail)
          go_wp2
          go_ret
          exact ⟨ret_bool (decide_eq_false HNE.out).symm, hfr.drewN _⟩
      · have hk1 : ¬ (k : Int) < (la.length : Int) := by omega
        go_wp2
        go_ret
        refine ⟨ret_bool ?_, hfr⟩
        rw [eq_comm, decide_eq_true_eq]
        have := HEQ.out
        rwa [List.take_of_length_le (by omega), List.take_of_length_le (by rw [← HL.out]; omega)] at this
  · have hne : ((la.length : Int) != (lb.length : Int)) = true := by simp; omega
    have hd : decide (la = lb) = false := decide_eq_false (fun e => hl (by rw [e]))
    have HD := hide hd
    clear hl hd
    go_enter Try.func20, Try.ntmps20
    go_wp2
    go_ret
    exact ⟨ret_bool HD.out.symm, Fr.refl _ _⟩

/-- The law's durations. -/
def durM (n : Nat) (d : List Nat) : List Nat := (List.range n).map fun i => if h : i < d.length then d[i] % 12 else i % 3
def durAt (d : List Nat) (i : Nat) : Nat := if h : i < d.length then d[i] % 12 else i % 3
theorem durM_length (n : Nat) (d : List Nat) : (durM n d).length = n := by simp [durM]
theorem durM_le {n : Nat} {d : List Nat} {x : Nat} (h : x ∈ durM n d) : x ≤ 11 := by
  unfold durM at h
  obtain ⟨i, _, rfl⟩ := List.mem_map.1 h
  split <;> omega
def DuRel (w1 : World) (g n : Nat) (d : List Nat) (m : Nat) (i : Value) (wr : World) : Prop :=
  ∃ k : Nat, k ≤ n ∧ i = .int .i64 k ∧ FA wr g 33 uv n (fun i => if i < k then durAt d i else 0) ∧ Fr [] w1 wr ∧ m = n - k
set_option maxHeartbeats 2000000 in
theorem durations_any (n : Nat) (B : Option Addr) (cq : Nat) (d : List Nat) (w : World) (hb : Row w B (d.map uv)) (hn : n ≤ 4096) (hd : d.length ≤ maxLen) :
    Calls Try.prog 15 #[.int .i64 n, .slice B d.length cq] w fun e w' => OwnRet w 33 1 n ((durM n d).map uv) e w' := by
  unfold maxLen at hd
  have HB := hide hb
  clear hb
  have hmk := make_u64s n n (Nat.le_refl _) (by omega)
  have hnew : FA (w.alloc (.cells (Array.replicate n (.int .u64 0)) 33)) w.heap.size 33 uv n (fun _ => 0) := FA.new w 33 uv 0 n
  have hfr0 : Fr [] w (w.alloc (.cells (Array.replicate n (.int .u64 0)) 33)) := (Fr.refl _ _).alloc _
  go_enter Try.func15, Try.ntmps15
  go_wp2
  generalize (w.alloc (.cells (Array.replicate n (.int .u64 0)) 33)) = w1 at hnew hfr0 ⊢
  obtain ⟨g, hg⟩ : ∃ g, g = w.heap.size := ⟨_, rfl⟩
  have hgw : w.heap.size ≤ g := by omega
  rw [← hg] at hnew ⊢
  clear hg hmk
  go_loopg [6] n (fun m i wr => DuRel w g n d m i wr)
  case atStart => exact ⟨0, by omega, rfl, hnew.congr (fun i _ => by simp), hfr0, rfl⟩
  case round =>
    clear hnew hfr0
    obtain ⟨k, hk, rfl, hfa, hfr, hmm⟩ := hrel
    have HM := hide hmm
    have HFA := hide hfa
    clear hmm hfa
    by_cases hlt : k < n
    · have hkl : (k : Int) < (n : Int) := by omega
      have c0 := HFA.out.cell hlt
      have f0 := HFA.out.frozen k
      by_cases hin : k < d.length
      · obtain ⟨x, hx⟩ : ∃ x, d[k]? = some x := ⟨_, List.getElem?_eq_getElem hin⟩
        have hbr := ((HB.out.fr0 hfr).fr (S := [g]) ((Fr.refl [g] wr).set (p := ⟨g, k, none⟩) (.inl (by simp)) (.int .u64 ((k : Int) % 3))) (fun ad e hm => by
          obtain ⟨ob, oo, e2, h1⟩ := HB.out.lt (by simp; omega)
          rw [e] at e2
          injection e2 with e2
          have := List.mem_singleton.1 hm
          rw [e2] at this
          simp at this
          omega))
        have hdk : durAt d k = x % 12 := by
          unfold durAt
          rw [dif_pos hin]
          rw [List.getElem?_eq_getElem hin] at hx
          injection hx with hx
          rw [hx]
        obtain ⟨ob, oo, rfl, c1⟩ := hbr.uint hx
        have HDK := hide hdk
        have hkd : (k : Int) < (d.length : Int) := by omega
        clear hx hdk hbr
        go_wp2
        go_roundg (n - (k + 1))
        case measure => rw [HM.out]; omega
        case rel =>
          refine ⟨k + 1, by omega, by go_num, ?_, (hfr.set (.inr hgw) _).set (.inr hgw) _, rfl⟩
          have h1 := (HFA.out.set_ k (k % 3)).set_ k (x % 12)
          rw [uv_mod3, uv_mod12] at h1
          refine FA.congr (f := fun j => if j = k then x % 12 else if j = k then k % 3 else if j < k then durAt d j else 0) ?_ (fun j _ => ?_)
          · exact h1
          · by_cases e : j = k
            · rw [if_pos e, if_pos (by omega), e, HDK.out]
            · rw [if_neg e, if_neg e]
              by_cases e2 : j < k
              · rw [if_pos e2, if_pos (by omega)]
              · rw [if_neg e2, if_neg (by omega)]
      · have hdk : durAt d k = k % 3 := by
          unfold durAt
          rw [dif_neg hin]
        have HDK := hide hdk
        have hkd : ¬ (k : Int) < (d.length : Int) := by omega
        clear hdk
        go_wp2
        go_roundg (n - (k + 1))
        case measure => rw [HM.out]; omega
        case rel =>
          refine ⟨k + 1, by omega, by go_num, ?_, hfr.set (.inr hgw) _, rfl⟩
          have h1 := HFA.out.set_ k (k % 3)
          rw [uv_mod3] at h1
          refine FA.congr (f := fun j => if j = k then k % 3 else if j < k then durAt d j else 0) ?_ (fun j _ => ?_)
          · exact h1
          · by_cases e : j = k
            · rw [if_pos e, if_pos (by omega), e, HDK.out]
            · rw [if_neg e]
              by_cases e2 : j < k
              · rw [if_pos e2, if_pos (by omega)]
              · rw [if_neg e2, if_neg (by omega)]
    · have hkl : ¬ (k : Int) < (n : Int) := by omega
      have hfa := HFA.out.congr (f' := durAt d) (fun i hi => if_pos (by omega))
      have hfin := hfa.own (base := w.heap.size) hgw (by simp [maxLen]; omega)
      have HF := hide hfin
      clear hfa hfin HFA
      go_wp2
      go_ret
      exact ⟨_, rfl, HF.out, hfr⟩
end Go.Proofs.Ytinengemeppefaa

