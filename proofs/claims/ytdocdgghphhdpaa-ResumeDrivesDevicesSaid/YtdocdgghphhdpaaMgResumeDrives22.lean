/- The plain model of Verify. -/
import Derived.Test.YtdocdgghphhdpaaSchW5Mg
import Derived.Test.YtdocdgghphhdpaaMgResumeDrives6
namespace Go.Proofs.Ytdocdgghphhdpaa
open Go.RowKit

/-- A slot as it came in. -/
structure RSl where
  d : Int
  w : Int
  s : Nat
  e : Nat
deriving DecidableEq
def rcell (x : RSl) : List Value := [.int .i64 x.d, .int .i64 x.w, uv x.s, uv x.e]
def rcells (l : List RSl) : List Value := l.flatMap rcell
theorem rcell_len (x : RSl) : (rcell x).length = 4 := rfl
def toR (x : Slt) : RSl := ⟨x.d, x.w, x.s, x.e⟩
theorem rcells_toR (l : List Slt) : rcells (l.map toR) = scells l := by
  unfold rcells scells
  rw [List.flatMap_map]
  rfl
theorem Row.slot {w : World} {A : Option Addr} {l : List RSl} (hr : Row w A (rcells l)) {i : Nat} {x : RSl} (h : l[i]? = some x) :
    ∃ ob oo, A = some ⟨ob, oo, none⟩ ∧ w.cell? ⟨ob, oo + i * 4, none⟩ = some (.int .i64 x.d) ∧ w.cell? ⟨ob, oo + i * 4 + 1, none⟩ = some (.int .i64 x.w) ∧ w.cell? ⟨ob, oo + i * 4 + 2, none⟩ = some (.int .u64 (x.s : Int)) ∧ w.cell? ⟨ob, oo + i * 4 + 3, none⟩ = some (.int .u64 (x.e : Int)) := by
  obtain ⟨ob, oo, e, hc⟩ := Row.el rcell_len (by omega) hr h
  exact ⟨ob, oo, e, hc 0 _ rfl, hc 1 _ rfl, hc 2 _ rfl, hc 3 _ rfl⟩
/-- The numbers fit into uint64. -/
def RFits (x : RSl) : Prop := x.s ≤ 18446744073709551615 ∧ x.e ≤ 18446744073709551615

def OkSlot (N W : Nat) (D : Nat → Nat) (x : RSl) : Prop := 0 ≤ x.d ∧ x.d < (N : Int) ∧ 0 ≤ x.w ∧ x.w < (W : Int) ∧ x.e = x.s + D x.d.toNat
instance (N W : Nat) (D : Nat → Nat) (x : RSl) : Decidable (OkSlot N W D x) := by unfold OkSlot; infer_instance
def Shaped (N W : Nat) (D : Nat → Nat) (sl : List RSl) : Prop := sl.length = N ∧ (∀ x ∈ sl, OkSlot N W D x) ∧ (sl.map RSl.d).Nodup
instance (N W : Nat) (D : Nat → Nat) (sl : List RSl) : Decidable (Shaped N W D sl) := by unfold Shaped; infer_instance
def Clash (x y : RSl) : Prop := x.w = y.w ∧ x.s < y.e ∧ y.s < x.e
instance (x y : RSl) : Decidable (Clash x y) := by unfold Clash; infer_instance
def NoClash (sl : List RSl) : Prop := sl.Pairwise fun y x => ¬ Clash x y
instance (sl : List RSl) : Decidable (NoClash sl) := by unfold NoClash; infer_instance
def DepOk (sl : List RSl) (q : Int × Int) : Prop := ∀ x ∈ sl, ∀ y ∈ sl, x.d = q.1 → y.d = q.2 → y.e ≤ x.s
instance (sl : List RSl) (q : Int × Int) : Decidable (DepOk sl q) := by unfold DepOk; infer_instance
def verM (n : Int) (l : List (Int × Int)) (dur : List Nat) (W : Int) (sl : List RSl) : Int :=
  if chkM n l dur W = 0 then (if Shaped n.toNat W.toNat (durF dur) sl then (if NoClash sl then (if ∀ q ∈ l, DepOk sl q then 0 else 9) else 17) else 1) else chkM n l dur W
section
variable {N W : Nat} {l : List (Int × Int)} {dur : List Nat} {sl : List RSl}
theorem verM_bad {n W : Int} (h : ¬ chkM n l dur W = 0) : verM n l dur W sl = chkM n l dur W := by simp [verM, h]
theorem verM_shape (h : chkM N l dur W = 0) (k : ¬ Shaped N W (durF dur) sl) : verM N l dur W sl = 1 := by simp [verM, h, k]
theorem verM_clash (h : chkM N l dur W = 0) (k : Shaped N W (durF dur) sl) (k2 : ¬ NoClash sl) : verM N l dur W sl = 17 := by simp [verM, h, k, k2]
theorem verM_dep (h : chkM N l dur W = 0) (k : Shaped N W (durF dur) sl) (k2 : NoClash sl) (k3 : ¬ ∀ q ∈ l, DepOk sl q) : verM N l dur W sl = 9 := by
  unfold verM
  rw [if_pos h, if_pos (by simpa using k), if_pos k2, if_neg k3]
theorem verM_ok (h : chkM N l dur W = 0) (k : Shaped N W (durF dur) sl) (k2 : NoClash sl) (k3 : ∀ q ∈ l, DepOk sl q) : verM N l dur W sl = 0 := by
  unfold verM
  rw [if_pos h, if_pos (by simpa using k), if_pos k2, if_pos k3]
end
/-- Where a device's slot is, or -1. -/
def posOf (l : List RSl) (d : Nat) : Int := optI (l.findIdx? fun x => x.d == (d : Int))
theorem posOf_snoc {l : List RSl} {x : RSl} (h : ∀ y ∈ l, y.d ≠ x.d) (d : Nat) : posOf (l ++ [x]) d = if (d : Int) = x.d then (l.length : Int) else posOf l d := by
  unfold posOf
  rw [List.findIdx?_append]
  by_cases e : (d : Int) = x.d
  · rw [if_pos e]
    have hn : (l.findIdx? fun y => y.d == (d : Int)) = none := by
      rw [List.findIdx?_eq_none_iff]
      intro y hy
      have := h y hy
      simp
      omega
    rw [hn]
    simp [e, List.findIdx?_cons, optI]
  · rw [if_neg e]
    have : ¬ x.d = (d : Int) := fun h' => e h'.symm
    cases (l.findIdx? fun y => y.d == (d : Int)) <;> simp [List.findIdx?_cons, this]
theorem posOf_nil (d : Nat) : posOf [] d = -1 := rfl
theorem posOf_neg {l : List RSl} {d : Nat} : ¬ 0 ≤ posOf l d ↔ ∀ y ∈ l, y.d ≠ (d : Int) := by
  unfold posOf
  cases h : l.findIdx? fun x => x.d == (d : Int) with
  | none =>
    rw [List.findIdx?_eq_none_iff] at h
    simp only [optI]
    refine ⟨fun _ y hy e => ?_, fun _ => by omega⟩
    have := h y hy
    simp [e] at this
  | some i =>
    rw [List.findIdx?_eq_some_iff_getElem] at h
    obtain ⟨hi, h1, _⟩ := h
    simp only [optI]
    refine ⟨fun h2 => absurd (by omega) h2, fun h2 => ?_⟩
    exact absurd (by simpa using h1) (h2 _ (List.getElem_mem hi))
theorem posOf_mem {l : List RSl} {d : Nat} {y : RSl} (hy : y ∈ l) (e : y.d = (d : Int)) : ∃ (i : Nat) (x : RSl), posOf l d = (i : Int) ∧ l[i]? = some x ∧ x.d = (d : Int) := by
  unfold posOf
  cases h : l.findIdx? fun x => x.d == (d : Int) with
  | none =>
    rw [List.findIdx?_eq_none_iff] at h
    have := h y hy
    simp [e] at this
  | some i =>
    rw [List.findIdx?_eq_some_iff_getElem] at h
    obtain ⟨hi, h1, _⟩ := h
    exact ⟨i, l[i], rfl, List.getElem?_eq_getElem hi, by simpa using h1⟩
theorem RSl.uniq {sl : List RSl} (hn : (sl.map RSl.d).Nodup) {x y : RSl} (hx : x ∈ sl) (hy : y ∈ sl) (e : x.d = y.d) : x = y := by
  obtain ⟨i, hi⟩ := List.getElem?_of_mem hx
  obtain ⟨j, hj⟩ := List.getElem?_of_mem hy
  obtain ⟨hil, hi'⟩ := List.getElem?_eq_some_iff.1 hi
  obtain ⟨hjl, hj'⟩ := List.getElem?_eq_some_iff.1 hj
  have : i = j := by
    apply (List.getElem_inj (h₀ := by simpa using hil) (h₁ := by simpa using hjl) hn).1
    simp only [List.getElem_map]
    rw [hi', hj', e]
  subst this
  rw [← hi', ← hj']
theorem Shaped.mem {N W : Nat} {D : Nat → Nat} {sl : List RSl} (h : Shaped N W D sl) {d : Nat} (hd : d < N) : ∃ y ∈ sl, y.d = (d : Int) := by
  have := mem_of_full (n := N) (o := (sl.map RSl.d).map Int.toNat) (fun v hv => by
    obtain ⟨z, hz, rfl⟩ := List.mem_map.1 hv
    obtain ⟨y, hy, rfl⟩ := List.mem_map.1 hz
    have := h.2.1 y hy
    unfold OkSlot at this
    omega) (by
    unfold List.Nodup
    rw [List.pairwise_map]
    refine List.Pairwise.imp_of_mem (fun {a b} ha hb hne e => ?_) h.2.2
    obtain ⟨y, hy, rfl⟩ := List.mem_map.1 ha
    obtain ⟨z, hz, rfl⟩ := List.mem_map.1 hb
    have h1 := h.2.1 y hy
    have h2 := h.2.1 z hz
    unfold OkSlot at h1 h2
    omega) (by simpa using h.1) hd
  obtain ⟨z, hz, e⟩ := List.mem_map.1 this
  obtain ⟨y, hy, rfl⟩ := List.mem_map.1 hz
  have h1 := h.2.1 y hy
  unfold OkSlot at h1
  exact ⟨y, hy, by omega⟩
/-- What the loop over the links compares. -/
theorem depOk_iff {sl : List RSl} (hn : (sl.map RSl.d).Nodup) {q : Int × Int} {x y : RSl} (hx : x ∈ sl) (hy : y ∈ sl) (e1 : x.d = q.1) (e2 : y.d = q.2) : DepOk sl q ↔ ¬ x.s < y.e := by
  constructor
  · intro h
    have := h x hx y hy e1 e2
    omega
  · intro h x' hx' y' hy' e1' e2'
    rw [RSl.uniq hn hx' hx (e1'.trans e1.symm), RSl.uniq hn hy' hy (e2'.trans e2.symm)]
    omega
end Go.Proofs.Ytdocdgghphhdpaa

/- Walks: resume.Makespan, resume.CriticalPath, law31.durations, help.Equal at slots. -/
namespace Go.Proofs.Ytdocdgghphhdpaa
open Go.RowKit

def EqRelS {α : Type} (w : World) (la lb : List α) (m : Nat) (i : Value) (wr : World) : Prop := ∃ k : Nat, k ≤ la.length ∧ i = .int .i64 k ∧ la.take k = lb.take k ∧ Fr [] w wr ∧ m = la.length - k
theorem uv_mod3 (k : Nat) : uv (k % 3) = .int .u64 ((k : Int) % 3) := by simp [uv]
theorem uv_mod12 (k : Nat) : uv (k % 12) = .int .u64 ((k : Int) % 12) := by simp [uv]
def mkR (sl : List RSl) : Nat := sl.foldl (fun b x => max b x.e) 0
theorem mkR_toR (sl : List Slt) : mkR (sl.map toR) = mkspan sl := by
  unfold mkR mkspan
  rw [List.foldl_map]
  rfl
theorem mkR_snoc (sl : List RSl) (x : RSl) : mkR (sl ++ [x]) = max (mkR sl) x.e := by simp [mkR]
def MkRel (w : World) (sl : List RSl) (m : Nat) (v i : Value) (wr : World) : Prop := ∃ k : Nat, k ≤ sl.length ∧ v = .int .u64 (mkR (sl.take k) : Int) ∧ i = .int .i64 k ∧ Fr [] w wr ∧ m = sl.length - k
set_option maxHeartbeats 1000000 in
theorem makespan31_any (A : Option Addr) (cp : Nat) (sl : List RSl) (w : World) (hr : Row w A (rcells sl)) (hm : sl.length ≤ 4096) :
    Calls Try.prog 87 #[.slice A sl.length cp] w fun e w' => e = .returned (.int .u64 (mkR sl : Int)) ∧ Fr [] w w' := by
  have HR := hide hr
  clear hr
  go_enter Try.func87, Try.ntmps87
  go_wp2
  go_loopg [3, 8] sl.length (fun m v i wr => MkRel w sl m v i wr)
  case atStart => exact ⟨0, by omega, rfl, rfl, Fr.refl _ _, rfl⟩
  case round =>
    obtain ⟨k, hk, rfl, rfl, hfr, hmm⟩ := hrel
    have HM := hide hmm
    clear hmm
    by_cases hlt : k < sl.length
    · obtain ⟨x, hx⟩ : ∃ x, sl[k]? = some x := ⟨_, List.getElem?_eq_getElem hlt⟩
      obtain ⟨ob, oo, rfl, c0, c1, c2, c3⟩ := (HR.out.fr0 hfr).slot hx
      have hkl : (k : Int) < (sl.length : Int) := by omega
      have HX := hide (mkR_snoc (sl.take k) x)
      rw [← take_succ_some hx] at HX
      clear hx
      generalize mkR (sl.take k) = t at HX ⊢
      obtain ⟨d, wk, s, e⟩ := x
      simp only at c0 c1 c2 c3 HX
      by_cases hle : t ≤ e
      · have hle' : (t : Int) ≤ (e : Int) := by omega
        have hmx : max t e = e := by omega
        rw [hmx] at HX
        clear hmx hle
        go_wp2
        all_goals
          go_roundg (sl.length - (k + 1))
          case measure => rw [HM.out]; omega
          case rel => exact ⟨k + 1, by omega, by first | (rw [HX.out]; done) | (rw [HX.out]; congr 1; omega), by go_num, hfr.alloc _, rfl⟩
      · have hle' : ¬ (t : Int) ≤ (e : Int) := by omega
        have hmx : max t e = t := by omega
        rw [hmx] at HX
        clear hmx hle
        go_wp2
        all_goals
          go_roundg (sl.length - (k + 1))
          case measure => rw [HM.out]; omega
          case rel => exact ⟨k + 1, by omega, by first | (rw [HX.out]; done) | (rw [HX.out]; congr 1; omega), by go_num, hfr.alloc _, rfl⟩
    · have hkl : ¬ (k : Int) < (sl.length : Int) := by omega
      rw [List.take_of_length_le (by omega)]
      go_wp2
      go_ret
      exact ⟨rfl, hfr⟩
set_option maxHeartbeats 2000000 in
theorem equalSlots_any (A B : Option Addr) (cp cq : Nat) (la lb : List RSl) (w : World) (ha : Row w A (rcells la)) (hb : Row w B (rcells lb)) (hn : la.length ≤ 4096) :
    Calls Try.prog 88 #[.slice A la.length cp, .slice B lb.length cq] w fun e w' => e = .returned (.bool (decide (la = lb))) ∧ Fr [] w w' := by
  have HA := hide ha
  have HB := hide hb
  clear ha hb
  by_cases hl : la.length = lb.length
  · have hne : ((la.length : Int) != (lb.length : Int)) = false := by simp [hl]
    have HL := hide hl
    clear hl
    go_enter Try.func88, Try.ntmps88
    go_wp2
    go_loopg [5] la.length (fun n i wr => EqRelS w la lb n i wr)
    case atStart => exact ⟨0, Nat.zero_le _, rfl, rfl, Fr.refl _ _, rfl⟩
    case round =>
      obtain ⟨k, hk, rfl, heq, hfr, hmm⟩ := hrel
      have HEQ := hide heq
      have HM := hide hmm
      clear heq hmm
      by_cases hlt : k < la.length
      · have hlt2 : k < lb.length := by rw [← HL.out]; exact hlt
        obtain ⟨pa, hpa⟩ : ∃ pa, la[k]? = some pa := ⟨_, List.getElem?_eq_getElem hlt⟩
        obtain ⟨pb, hpb⟩ : ∃ pb, lb[k]? = some pb := ⟨_, List.getElem?_eq_getElem hlt2⟩
        obtain ⟨ob, oo, rfl, c0, c1, c2, c3⟩ := (HA.out.fr0 hfr).slot hpa
        obtain ⟨ob', oo', rfl, d0, d1, d2, d3⟩ := (HB.out.fr0 hfr).slot hpb
        have HPA := hide hpa
        have HPB := hide hpb
        have hk1 : (k : Int) < (la.length : Int) := by omega
        have hk2 : (k : Int) < (lb.length : Int) := by omega
        have hdis : pa ≠ pb → la ≠ lb := fun hne e => hne (by
          rw [e, hpb] at hpa
          injection hpa with h
          exact h.symm)
        clear hpa hpb
        have HDIS := hide hdis
        clear hdis
        obtain ⟨a0, a1, a2, a3⟩ := pa
        obtain ⟨b0, b1, b2, b3⟩ := pb
        simp only at c0 c1 c2 c3 d0 d1 d2 d3
        by_cases e0 : a0 = b0
        · subst e0
          by_cases e1 : a1 = b1
          · subst e1
            by_cases e2 : a2 = b2
            · subst e2
              by_cases e3 : a3 = b3
              · subst e3
                go_wp2
                go_quiet (fail)
                go_wp2
                go_roundg (la.length - (k + 1))
                case measure => rw [HM.out]; omega
                case rel =>
                  refine ⟨k + 1, by omega, by go_num, ?_, hfr.drewN _, rfl⟩
                  rw [List.take_add_one, List.take_add_one, HPA.out, HPB.out, HEQ.out]
              · have hx : ¬ (a3 : Int) = (b3 : Int) := by omega
                have HNE := hide (HDIS.out (by simp [e3]))
                clear e3
                go_wp2
                go_quiet (fail)
                go_wp2
                go_ret
                exact ⟨ret_bool (decide_eq_false HNE.out).symm, hfr.drewN _⟩
            · have hx : ¬ (a2 : Int) = (b2 : Int) := by omega
              have HNE := hide (HDIS.out (by simp [e2]))
              clear e2
              go_wp2
              go_quiet (fail)
              go_wp2
              go_ret
              exact ⟨ret_bool (decide_eq_false HNE.out).symm, hfr.drewN _⟩
          · have HNE := hide (HDIS.out (by simp [e1]))
            go_wp2
            go_quiet (fail)
            go_wp2
            go_ret
            exact ⟨ret_bool (decide_eq_false HNE.out).symm, hfr.drewN _⟩
        · have HNE := hide (HDIS.out (by simp [e0]))
          go_wp2
          go_quiet (fail)
          go_wp2
          go_ret
          exact ⟨ret_bool (decide_eq_false HNE.out).symm, hfr.drewN _⟩
      · have hk1 : ¬ (k : Int) < (la.length : Int) := by omega
        go_wp2
        go_ret
        refine ⟨ret_bool ?_, hfr⟩
        rw [eq_comm, decide_eq_true_eq]
        have := HEQ.out
        rwa [List.take_of_length_le (by omega), List.take_of_length_le (by rw [← HL.out]; omega)] at this
  · have hne : ((la.length : Int) != (lb.length : Int)) = true := by simp; omega
    have hd : decide (la = lb) = false := decide_eq_false (fun e => hl (by rw [e]))
    have HD := hide hd
    clear hl hd
    go_enter Try.func88, Try.ntmps88
    go_wp2
    go_ret
    exact ⟨ret_bool HD.out.symm, Fr.refl _ _⟩

/-- The law's durations. -/
def durM (n : Nat) (d : List Nat) : List Nat := (List.range n).map fun i => if h : i < d.length then d[i] % 12 else i % 3
def durAt (d : List Nat) (i : Nat) : Nat := if h : i < d.length then d[i] % 12 else i % 3
theorem durM_length (n : Nat) (d : List Nat) : (durM n d).length = n := by simp [durM]
theorem durM_le {n : Nat} {d : List Nat} {x : Nat} (h : x ∈ durM n d) : x ≤ 11 := by
  unfold durM at h
  obtain ⟨i, _, rfl⟩ := List.mem_map.1 h
  split <;> omega
def DuRel (w1 : World) (g n : Nat) (d : List Nat) (m : Nat) (i : Value) (wr : World) : Prop :=
  ∃ k : Nat, k ≤ n ∧ i = .int .i64 k ∧ FA wr g 33 uv n (fun i => if i < k then durAt d i else 0) ∧ Fr [] w1 wr ∧ m = n - k
set_option maxHeartbeats 2000000 in
theorem durations_any (n : Nat) (B : Option Addr) (cq : Nat) (d : List Nat) (w : World) (hb : Row w B (d.map uv)) (hn : n ≤ 4096) (hd : d.length ≤ maxLen) :
    Calls Try.prog 52 #[.int .i64 n, .slice B d.length cq] w fun e w' => OwnRet w 33 1 n ((durM n d).map uv) e w' := by
  unfold maxLen at hd
  have HB := hide hb
  clear hb
  have hmk := make_u64s n n (Nat.le_refl _) (by omega)
  have hnew : FA (w.alloc (.cells (Array.replicate n (.int .u64 0)) 33)) w.heap.size 33 uv n (fun _ => 0) := FA.new w 33 uv 0 n
  have hfr0 : Fr [] w (w.alloc (.cells (Array.replicate n (.int .u64 0)) 33)) := (Fr.refl _ _).alloc _
  go_enter Try.func52, Try.ntmps52
  go_wp2
  generalize (w.alloc (.cells (Array.replicate n (.int .u64 0)) 33)) = w1 at hnew hfr0 ⊢
  obtain ⟨g, hg⟩ : ∃ g, g = w.heap.size := ⟨_, rfl⟩
  have hgw : w.heap.size ≤ g := by omega
  rw [← hg] at hnew ⊢
  clear hg hmk
  go_loopg [6] n (fun m i wr => DuRel w g n d m i wr)
  case atStart => exact ⟨0, by omega, rfl, hnew.congr (fun i _ => by simp), hfr0, rfl⟩
  case round =>
    clear hnew hfr0
    obtain ⟨k, hk, rfl, hfa, hfr, hmm⟩ := hrel
    have HM := hide hmm
    have HFA := hide hfa
    clear hmm hfa
    by_cases hlt : k < n
    · have hkl : (k : Int) < (n : Int) := by omega
      have c0 := HFA.out.cell hlt
      have f0 := HFA.out.frozen k
      by_cases hin : k < d.length
      · obtain ⟨x, hx⟩ : ∃ x, d[k]? = some x := ⟨_, List.getElem?_eq_getElem hin⟩
        have hbr := ((HB.out.fr0 hfr).fr (S := [g]) ((Fr.refl [g] wr).set (p := ⟨g, k, none⟩) (.inl (by simp)) (.int .u64 ((k : Int) % 3))) (fun ad e hm => by
          obtain ⟨ob, oo, e2, h1⟩ := HB.out.lt (by simp; omega)
          rw [e] at e2
          injection e2 with e2
          have := List.mem_singleton.1 hm
          rw [e2] at this
          simp at this
          omega))
        have hdk : durAt d k = x % 12 := by
          unfold durAt
          rw [dif_pos hin]
          rw [List.getElem?_eq_getElem hin] at hx
          injection hx with hx
          rw [hx]
        obtain ⟨ob, oo, rfl, c1⟩ := hbr.uint hx
        have HDK := hide hdk
        have hkd : (k : Int) < (d.length : Int) := by omega
        clear hx hdk hbr
        go_wp2
        go_roundg (n - (k + 1))
        case measure => rw [HM.out]; omega
        case rel =>
          refine ⟨k + 1, by omega, by go_num, ?_, (hfr.set (.inr hgw) _).set (.inr hgw) _, rfl⟩
          have h1 := (HFA.out.set_ k (k % 3)).set_ k (x % 12)
          rw [uv_mod3, uv_mod12] at h1
          refine FA.congr (f := fun j => if j = k then x % 12 else if j = k then k % 3 else if j < k then durAt d j else 0) ?_ (fun j _ => ?_)
          · exact h1
          · by_cases e : j = k
            · rw [if_pos e, if_pos (by omega), e, HDK.out]
            · rw [if_neg e, if_neg e]
              by_cases e2 : j < k
              · rw [if_pos e2, if_pos (by omega)]
              · rw [if_neg e2, if_neg (by omega)]
      · have hdk : durAt d k = k % 3 := by
          unfold durAt
          rw [dif_neg hin]
        have HDK := hide hdk
        have hkd : ¬ (k : Int) < (d.length : Int) := by omega
        clear hdk
        go_wp2
        go_roundg (n - (k + 1))
        case measure => rw [HM.out]; omega
        case rel =>
          refine ⟨k + 1, by omega, by go_num, ?_, hfr.set (.inr hgw) _, rfl⟩
          have h1 := HFA.out.set_ k (k % 3)
          rw [uv_mod3] at h1
          refine FA.congr (f := fun j => if j = k then k % 3 else if j < k then durAt d j else 0) ?_ (fun j _ => ?_)
          · exact h1
          · by_cases e : j = k
            · rw [if_pos e, if_pos (by omega), e, HDK.out]
            · rw [if_neg e]
              by_cases e2 : j < k
              · rw [if_pos e2, if_pos (by omega)]
              · rw [if_neg e2, if_neg (by omega)]
    · have hkl : ¬ (k : Int) < (n : Int) := by omega
      have hfa := HFA.out.congr (f' := durAt d) (fun i hi => if_pos (by omega))
      have hfin := hfa.own (base := w.heap.size) hgw (by simp [maxLen]; omega)
      have HF := hide hfin
      clear hfa hfin HFA
      go_wp2
      go_ret
      exact ⟨_, rfl, HF.out, hfr⟩
end Go.Proofs.Ytdocdgghphhdpaa

