/- Walks over suspend's methods: Complete's other ways, Abort, Wake, Asleep, Result, Next. -/
import Derived.Test.YtdocdgghphhdpaaMgSuspFail20
import Derived.Test.YtdocdgghphhdpaaMgSuspFail12
namespace Go.Proofs.Ytdocdgghphhdpaa
open Go.RowKit

set_option maxHeartbeats 1000000 in
theorem complete_up {b : Nat} {S : Seq} {w : World} (r : Int) (h : SeqAt w b S) (ho : OkOrd S.ord) (h3 : S.st = 3) (g5 : 5 ≤ S.ph) (g8 : S.ph ≤ 8) (gp : S.po < S.ord.length) :
    Calls Try.prog 36 #[.pointer (some ⟨b, 0, none⟩), .int .i64 r] w fun e w' => e = .returned (.int .i64 0) ∧ SeqAt w' b (S.up r) ∧ Fr [b] w w' := by
  obtain ⟨A, cp, c0, c1, c2, c3, c4, hs, hf, hr, hoff⟩ := h.cells
  have h64 := ho.1
  rw [h3] at c1
  have H3 := hide h3
  have f3 := hf 3
  have f4 := hf 324
  clear hs hf h3
  by_cases hz : S.rs = 0
  · have hb : (S.rs == 0) = true := by rw [beq_iff_eq]; exact hz
    have HZ := hide hz
    clear hz
    go_enter Try.func36, Try.ntmps36
    go_wp2_with fail
    rw [show ((S.po : Int) + 1) = ((S.po + 1 : Nat) : Int) by omega]
    refine (skip_any (S := { S with rs := r, po := S.po + 1 }) ((h.rs_ r).po_ (S.po + 1)) ho g5 g8 (by simp; omega)).mono ?_
    rintro e w1 ⟨rfl, hat, hfr⟩
    go_wp2
    go_ret
    refine ⟨rfl, ?_, (((Fr.refl _ _).set (.inl (by simp)) _).set (.inl (by simp)) _).trans hfr⟩
    have e : S.up r = ({ S with rs := r, po := S.po + 1 } : Seq).skip := by simp [Seq.up, HZ.out]
    rw [e]
    exact hat
  · have hb : (S.rs == 0) = false := by rw [beq_eq_false_iff_ne]; exact hz
    have HZ := hide hz
    clear hz
    go_enter Try.func36, Try.ntmps36
    go_wp2_with fail
    rw [show ((S.po : Int) + 1) = ((S.po + 1 : Nat) : Int) by omega]
    refine (skip_any (S := { S with po := S.po + 1 }) (h.po_ (S.po + 1)) ho g5 g8 (by simp; omega)).mono ?_
    rintro e w1 ⟨rfl, hat, hfr⟩
    go_wp2
    go_ret
    refine ⟨rfl, ?_, ((Fr.refl _ _).set (.inl (by simp)) _).trans hfr⟩
    have e : S.up r = ({ S with po := S.po + 1 } : Seq).skip := by simp [Seq.up, HZ.out]
    rw [e]
    exact hat

set_option maxHeartbeats 400000 in
theorem complete_no {b : Nat} {S : Seq} {w : World} (r : Int) (h : SeqAt w b S) (h1 : S.st ≠ 1) (h3 : S.st ≠ 3) :
    Calls Try.prog 36 #[.pointer (some ⟨b, 0, none⟩), .int .i64 r] w fun e w' => e = .returned (.int .i64 9) ∧ SeqAt w' b S ∧ Fr [b] w w' := by
  obtain ⟨A, cp, c0, c1, c2, c3, c4, hs, hf, hr, hoff⟩ := h.cells
  have e1 : ((S.st : Int) == 1) = false := by rw [beq_eq_false_iff_ne]; omega
  have e3 : ((S.st : Int) == 3) = false := by rw [beq_eq_false_iff_ne]; omega
  clear hs hf h1 h3 c0 c2 c3 c4
  go_enter Try.func36, Try.ntmps36
  go_wp2
  go_ret
  exact ⟨rfl, h, Fr.refl _ _⟩

theorem complete_any {b : Nat} {S : Seq} {w : World} (r : Int) (h : SeqAt w b S) (ok : S.Ok) :
    Calls Try.prog 36 #[.pointer (some ⟨b, 0, none⟩), .int .i64 r] w fun e w' => e = .returned (.int .i64 (S.complete r).2) ∧ SeqAt w' b (S.complete r).1 ∧ Fr [b] w w' := by
  unfold Seq.complete
  by_cases h1 : S.st = 1
  · obtain ⟨g1, g4, gp⟩ := ok.down h1
    by_cases hr : r = 0
    · subst hr
      simp only [h1, if_true]
      exact complete_down h ok.ord h1 g1 g4 gp
    · simp only [h1, if_true, hr, if_false]
      exact complete_fail r h ok.ord h1 hr
  · by_cases h3 : S.st = 3
    · obtain ⟨g5, g8, gp⟩ := ok.up h3
      simp only [h1, if_false, h3, if_true]
      simp only [h3, show ¬ (3 = 1) by omega, if_false]
      exact complete_up r h ok.ord h3 g5 g8 gp
    · simp only [h1, if_false, h3]
      exact complete_no r h h1 h3

set_option maxHeartbeats 400000 in
theorem wake_any {b : Nat} {S : Seq} {w : World} (h : SeqAt w b S) (ho : OkOrd S.ord) :
    Calls Try.prog 34 #[.pointer (some ⟨b, 0, none⟩)] w fun e w' => e = .returned (.int .i64 S.wake.2) ∧ SeqAt w' b S.wake.1 ∧ Fr [b] w w' := by
  obtain ⟨A, cp, c0, c1, c2, c3, c4, hs, hf, hr, hoff⟩ := h.cells
  clear hs hf c0 c2 c3 c4
  unfold Seq.wake
  by_cases h1 : S.st = 2
  · have e1 : ((S.st : Int) != 2) = false := by simp [h1]
    simp only [h1, if_true]
    clear h1
    go_enter Try.func34, Try.ntmps34
    go_wp2_with fail
    refine (undo_any 0 h ho).mono ?_
    rintro e w1 ⟨rfl, hat, hfr⟩
    go_wp2
    go_ret
    exact ⟨rfl, hat, hfr⟩
  · have e1 : ((S.st : Int) != 2) = true := by rw [bne_iff_ne]; omega
    simp only [h1, if_false]
    clear h1
    go_enter Try.func34, Try.ntmps34
    go_wp2_with fail
    go_ret
    exact ⟨rfl, h, Fr.refl _ _⟩

set_option maxHeartbeats 400000 in
theorem asleep_any {b : Nat} {S : Seq} {w : World} (h : SeqAt w b S) :
    Calls Try.prog 33 #[.pointer (some ⟨b, 0, none⟩)] w fun e w' => e = .returned (.bool S.asleep) ∧ w = w' := by
  obtain ⟨A, cp, c0, c1, c2, c3, c4, hs, hf, hr, hoff⟩ := h.cells
  clear hs hf c0 c2 c3 c4
  go_enter Try.func33, Try.ntmps33
  go_wp2_with fail
  go_ret
  exact ⟨ret_bool (by unfold Seq.asleep; rw [Bool.eq_iff_iff, beq_iff_eq, beq_iff_eq]; omega), rfl⟩

set_option maxHeartbeats 400000 in
theorem result_any {b : Nat} {S : Seq} {w : World} (h : SeqAt w b S) :
    Calls Try.prog 38 #[.pointer (some ⟨b, 0, none⟩)] w fun e w' => e = .returned (.tuple #[.int .i64 S.result.1, .bool S.result.2]) ∧ w = w' := by
  obtain ⟨A, cp, c0, c1, c2, c3, c4, hs, hf, hr, hoff⟩ := h.cells
  clear hs hf c0 c2 c3
  unfold Seq.result
  by_cases h1 : S.st = 4
  · have e1 : ((S.st : Int) != 4) = false := by simp [h1]
    simp only [h1, if_true]
    clear h1
    go_enter Try.func38, Try.ntmps38
    go_wp2_with fail
    go_ret2
    exact ⟨rfl, rfl⟩
  · have e1 : ((S.st : Int) != 4) = true := by rw [bne_iff_ne]; omega
    simp only [h1, if_false]
    clear h1
    go_enter Try.func38, Try.ntmps38
    go_wp2_with fail
    go_ret2
    exact ⟨rfl, rfl⟩

set_option maxHeartbeats 400000 in
theorem next_yes {b d : Nat} {S : Seq} {w : World} (h : SeqAt w b S) (ho : OkOrd S.ord) (hp : S.po < S.ord.length) (hd : S.dev = d) (h1 : S.st = 1 ∨ S.st = 3) :
    Calls Try.prog 35 #[.pointer (some ⟨b, 0, none⟩)] w fun e w' => e = .returned (.tuple #[.agg #[nv S.ph, nv d], .bool true]) ∧ Fr [] w w' := by
  obtain ⟨A, cp, c0, c1, c2, c3, c4, hs, hf, hr, hoff⟩ := h.cells
  have hlt := h.lt
  have HD := hide hd
  clear hs hf c0 c3 c4 hr hoff hd
  rcases h1 with h1 | h1
  all_goals
    rw [h1] at c1
    clear h1
    go_enter Try.func35, Try.ntmps35
    go_wp2_with fail
    go_region_held3 (fun w' => w'.cell? ⟨b, 2, none⟩ = some (.int .i64 S.ph)) (first | go_keep | exact Fr.cell (S := []) (by repeat (first | exact Fr.refl _ _ | refine Fr.drewN ?_ _ | refine Fr.drew ?_ | refine Fr.alloc ?_ _ | refine Fr.set ?_ (.inr (by simp)) _)) c2 (by simp)) (first | (go_at_call 75; refine (device_any (S := S) ((h.alloc _).drew) ho hp HD.out).mono ?_; rintro e w' ⟨rfl, k, rfl⟩))
    go_wp2
    have hbk := (((Blk.new w 69 #[.int .i64 0, .int .i64 0]).drewN (1 + k)).set_ 0 (.int .i64 S.ph)).set_ 1 (.int .i64 d)
    have k0 := hbk.cell 0
    have k1 := hbk.cell 1
    simp at k0 k1
    refine bodyPost_ret (v := .tuple #[.agg #[.int .i64 S.ph, .int .i64 d], .bool true]) (by simp [results, Try.results35, go_sem, k0, k1]) rfl ⟨rfl, ?_⟩
    repeat (first | exact Fr.refl _ _ | refine Fr.drewN ?_ _ | refine Fr.alloc ?_ _ | refine Fr.set ?_ (.inr (by simp)) _)
set_option maxHeartbeats 400000 in
theorem next_no {b : Nat} {S : Seq} {w : World} (h : SeqAt w b S) (h1 : S.st ≠ 1) (h3 : S.st ≠ 3) :
    Calls Try.prog 35 #[.pointer (some ⟨b, 0, none⟩)] w fun e w' => e = .returned (.tuple #[.agg #[nv 0, nv 0], .bool false]) ∧ Fr [] w w' := by
  obtain ⟨A, cp, c0, c1, c2, c3, c4, hs, hf, hr, hoff⟩ := h.cells
  have hlt := h.lt
  have e1 : ((S.st : Int) != 1) = true := by rw [bne_iff_ne]; omega
  have e3 : ((S.st : Int) != 3) = true := by rw [bne_iff_ne]; omega
  clear hs hf c0 c3 c4 hr hoff h1 h3
  go_enter Try.func35, Try.ntmps35
  go_wp2_with fail
  refine bodyPost_ret (v := .tuple #[.agg #[.int .i64 0, .int .i64 0], .bool false]) (by simp [results, Try.results35, go_sem]) rfl ⟨rfl, ?_⟩
  exact (Fr.refl _ _).alloc _
theorem next_any {b : Nat} {S : Seq} {w : World} (h : SeqAt w b S) (ok : S.Ok) :
    Calls Try.prog 35 #[.pointer (some ⟨b, 0, none⟩)] w fun e w' => e = .returned (.tuple #[.agg #[nv S.next.1.1, nv S.next.1.2], .bool S.next.2]) ∧ Fr [] w w' := by
  unfold Seq.next
  by_cases h1 : S.st = 1 ∨ S.st = 3
  · simp only [h1, if_true]
    exact next_yes h ok.ord (h1.elim (fun e => (ok.down e).2.2) (fun e => (ok.up e).2.2)) rfl h1
  · simp only [h1, if_false]
    exact next_no h (fun e => h1 (.inl e)) (fun e => h1 (.inr e))
end Go.Proofs.Ytdocdgghphhdpaa

/- (slices.Clone: HlpClone.) -/
namespace Go.Proofs.Ytdocdgghphhdpaa
open Go.RowKit
theorem int_info : (Try.prog.info? 3).map (fun i => (i.zero, i.size, i.bytes)) = some (some (.int .i64 0), 1, 8) := by kernel_rfl
end Go.Proofs.Ytdocdgghphhdpaa

/- Walks: suspend.New. -/
namespace Go.Proofs.Ytdocdgghphhdpaa
open Go.RowKit

/-- Each of the first k numbers is below n and none stands twice. -/
def GoodTo (l : List Int) (k : Nat) : Prop := ∀ i d, i < k → l[i]? = some d → 0 ≤ d ∧ d < (l.length : Int) ∧ d ∉ l.take i
def Good (l : List Int) : Prop := GoodTo l l.length
def SeenAt (w : World) (sb : Nat) (l : List Int) (k : Nat) : Prop := ∃ cs : Array Value, Blk w sb 134 cs ∧ ∀ d : Nat, d < 64 → cs[d]? = some (.bool (decide ((d : Int) ∈ l.take k)))
def NewRel (w : World) (sb : Nat) (l : List Int) (n : Nat) (i : Value) (wr : World) : Prop :=
  ∃ k : Nat, k ≤ l.length ∧ i = .int .i64 k ∧ SeenAt wr sb l k ∧ Fr [] w wr ∧ GoodTo l k ∧ n = l.length - k

def NewRet (w : World) (l : List Int) (r : Ending) (w' : World) : Prop :=
  (¬ (l.length ≤ 64 ∧ Good l) ∧ r = .returned (.tuple #[.pointer none, .int .i64 1]) ∧ Fr [] w w') ∨
  ((l.length ≤ 64 ∧ Good l) ∧ ∃ b, r = .returned (.tuple #[.pointer (some ⟨b, 0, none⟩), .int .i64 0]) ∧ w.heap.size ≤ b ∧
    SeqAt w' b { ord := l.map Int.toNat, st := if l.length = 0 then 2 else 1, ph := 1, po := 0, sc := fun _ => false, rs := 0, lo := w.heap.size } ∧ Fr [] w w')

theorem mem_take_succ {l : List Int} {k : Nat} {d e : Int} (h : l[k]? = some d) : e ∈ l.take (k + 1) ↔ e ∈ l.take k ∨ e = d := by
  have hk : k < l.length := (List.getElem?_eq_some_iff.1 h).1
  have hd : l[k] = d := (List.getElem?_eq_some_iff.1 h).2
  rw [List.take_succ_eq_append_getElem hk, hd]
  simp
theorem GoodTo.succ {l : List Int} {k : Nat} {d : Int} (h : GoodTo l k) (hd : l[k]? = some d) (h0 : 0 ≤ d) (h1 : d < l.length) (h2 : d ∉ l.take k) : GoodTo l (k + 1) := by
  intro i e hi he
  by_cases hik : i = k
  · subst hik
    have : e = d := Option.some.inj (he.symm.trans hd)
    subst this
    exact ⟨h0, h1, h2⟩
  · exact h i e (by omega) he
def seqZero (v : Value) : Array Value := #[v, .int .i64 1, .int .i64 1, .int .i64 0] ++ Array.replicate 320 (.bool false) ++ #[.int .i64 0]
theorem run_build_seq (A : Option Addr) (n c : Nat) (w : World) : (Instr.build 137 #[(0, .slice A n c), (1, .int .i64 1), (2, .int .i64 1)]).run Try.prog w = .ok (.agg (seqZero (.slice A n c))) w := by kernel_rfl
theorem wpList_build_seq {w : World} {ops : Array Oper} {rest : List Oper} {dst : Option Tmp} {ty : TypeId} {pos : String} {af : Array Edge} {a : Act} {Q : Exit → Act → World → Prop} {x : Operand} (A : Option Addr) (n c : Nat) (hx : a.eval x = .slice A n c)
    (h : wpList Try.prog ops Q rest (a.put dst (.agg (seqZero (.slice A n c)))) w) : wpList Try.prog ops Q (⟨dst, .build 137 #[(0, x), (1, .const (.int .i64 1)), (2, .const (.int .i64 1))], ty, pos, af, none⟩ :: rest) a w :=
  wpList_value w rfl _ w (by
    have h1 : a.eval (.const (.int .i64 1)) = .int .i64 1 := rfl
    unfold execOp
    simp only [List.map_toArray, List.map_cons, List.map_nil, hx, h1, Sem.run_bind, run_build_seq, Result.andThen_ok, Sem.run_pure]) h
theorem seqZero_get (v : Value) : (seqZero v)[0]? = some v ∧ (seqZero v)[1]? = some (.int .i64 1) ∧ (seqZero v)[2]? = some (.int .i64 1) ∧ (seqZero v)[3]? = some (.int .i64 0) ∧ (seqZero v)[324]? = some (.int .i64 0) ∧
    ∀ k, k < 320 → (seqZero v)[4 + k]? = some (.bool false) := by
  have hl : ∀ i, i < 4 → (seqZero v)[i]? = (#[v, .int .i64 1, .int .i64 1, .int .i64 0] : Array Value)[i]? := fun i hi => by
    unfold seqZero
    rw [Array.getElem?_append_left (by simp; omega), Array.getElem?_append_left (by simp; omega)]
  refine ⟨(hl 0 (by omega)).trans rfl, (hl 1 (by omega)).trans rfl, (hl 2 (by omega)).trans rfl, (hl 3 (by omega)).trans rfl, ?_, fun k hk => ?_⟩
  · unfold seqZero
    rw [Array.getElem?_append_right (by simp)]
    simp
  · unfold seqZero
    rw [Array.getElem?_append_left (by simp; omega), Array.getElem?_append_right (by simp)]
    simp [hk]
theorem seqAt_new {w : World} {base : Nat} {A : Option Addr} {n c : Nat} {ord : List Nat} (hn : ord.length = n) (ho : w.ownsRow base 3 1 (.slice A n c) n (ord.map nv)) :
    SeqAt (w.alloc (.cells (seqZero (.slice A n c)) 137)) w.heap.size { ord := ord, st := 1, ph := 1, po := 0, sc := fun _ => false, rs := 0, lo := base } := by
  obtain ⟨g0, g1, g2, g3, g4, g5⟩ := seqZero_get (.slice A n c)
  refine ⟨A, c, _, Blk.new _ _ _, by rw [g0, hn], g1, g2, g3, g4, g5, ?_, fun _ _ => .inl rfl⟩
  rw [hn]
  exact own_fr ho ((Fr.refl [] _).alloc _) (fun _ _ => by simp)
theorem map_nv_toNat {l : List Int} (h : ∀ d ∈ l, 0 ≤ d) : (l.map Int.toNat).map nv = l.map (Value.int .i64) := by
  rw [List.map_map]
  refine List.map_congr_left fun d hd => ?_
  have := h d hd
  simp [nv, Int.toNat_of_nonneg this]
set_option maxHeartbeats 4000000 in
set_option maxRecDepth 100000 in
theorem new_any (A : Option Addr) (cp : Nat) (l : List Int) (w : World) (hr : Row w A (l.map (Value.int .i64))) (hA : A = none → cp = 0) (hn : l.length ≤ 4096) :
    Calls Try.prog 32 #[.slice A l.length cp] w (NewRet w l) := by
  by_cases h64 : l.length ≤ 64
  · have HA := hide hA
    have HR := hide hr
    clear hA hr
    have h64' : ¬ ((64 : Int) < (l.length : Int)) := by omega
    go_enter Try.func32, Try.ntmps32
    go_wp2
    go_loopg [13] l.length (fun n i wr => NewRel w w.heap.size l n i wr)
    case atStart =>
      refine ⟨0, Nat.zero_le _, rfl, ⟨_, Blk.new _ _ _, fun d hd => ?_⟩, (Fr.refl _ _).alloc _, fun i d hi => absurd hi (Nat.not_lt_zero _), rfl⟩
      show (Array.replicate 64 (Value.bool false))[d]? = _
      simp [hd]
    case round =>
      obtain ⟨k, hk, rfl, hseen, hfr, hgood, hm⟩ := hrel
      have HM := hide hm
      have HG := hide hgood
      clear hm hgood
      obtain ⟨cs, hbk, hcs⟩ := hseen
      have HCS := hide hcs
      clear hcs
      by_cases hlt : k < l.length
      · have hget : (l.map (Value.int .i64))[k]? = some (.int .i64 l[k]) := by simp [hlt]
        have hlk : l[k]? = some l[k] := List.getElem?_eq_getElem hlt
        obtain ⟨ob, oo, rfl, hc⟩ := (HR.out.fr0 hfr).at_ hget
        have HLK := hide hlk
        clear hget hlk
        generalize l[k] = d at hc HLK
        by_cases hneg : d < 0
        · have hb : decide (d < 0) = true := by simpa using hneg
          go_wp2
          go_ret2
          refine .inl ⟨fun h => ?_, rfl, hfr⟩
          have := (h.2 k d hlt HLK.out).1
          omega
        · obtain ⟨dn, rfl⟩ := Int.eq_ofNat_of_zero_le (show 0 ≤ d by omega)
          have hb : decide ((dn : Int) < 0) = false := by simp
          by_cases hge : l.length ≤ dn
          · have hb2 : decide ((l.length : Int) ≤ (dn : Int)) = true := by simpa using hge
            go_wp2
            go_ret2
            refine .inl ⟨fun h => ?_, rfl, hfr⟩
            have := (h.2 k dn hlt HLK.out).2.1
            omega
          · have hb2 : decide ((l.length : Int) ≤ (dn : Int)) = false := by simp; omega
            have hcell := (hbk.cell dn).trans (HCS.out dn (by omega))
            have hfz := hbk.frozen dn
            have hi1 : (dn : Int) < 64 := by omega
            by_cases hin : (dn : Int) ∈ l.take k
            · have hb3 : decide ((dn : Int) ∈ l.take k) = true := by simpa using hin
              rw [hb3] at hcell
              clear hb3
              have HIN := hide hin
              clear hin
              go_wp2
              go_ret2
              refine .inl ⟨fun h => ?_, rfl, hfr⟩
              exact (h.2 k dn hlt HLK.out).2.2 HIN.out
            · have hb3 : decide ((dn : Int) ∈ l.take k) = false := by simpa using hin
              rw [hb3] at hcell
              clear hb3
              have HIN := hide hin
              clear hin
              go_wp2
              go_roundg (l.length - (k + 1))
              case measure => rw [HM.out]; omega
              case rel =>
                refine ⟨k + 1, by omega, by go_num, ⟨_, hbk.set_ dn (.bool true), fun e he => ?_⟩, hfr.set (.inr (Nat.le_refl _)) _, ?_, rfl⟩
                · by_cases hed : e = dn
                  · subst hed
                    have hx : (e : Int) ∈ l.take (k + 1) := (mem_take_succ HLK.out).2 (.inr rfl)
                    rw [Array.getElem?_setIfInBounds_self, if_pos (lt_of_get (HCS.out e he))]
                    simp [hx]
                  · rw [Array.getElem?_setIfInBounds_ne (Ne.symm hed), HCS.out e he]
                    have hx : (e : Int) ∈ l.take (k + 1) ↔ (e : Int) ∈ l.take k := by
                      rw [mem_take_succ HLK.out]
                      constructor
                      · rintro (h | h)
                        · exact h
                        · omega
                      · exact .inl
                    simp [hx]
                · exact HG.out.succ HLK.out (by omega) (by omega) HIN.out
      · have hkl : k = l.length := by omega
        have HK := hide hkl
        clear hkl
        go_wp2_with fail
        refine (clone_n A cp l.length (l.map (Value.int .i64)) wr (by simp) (HR.out.fr0 hfr) (by intro u hu; obtain ⟨d, _, rfl⟩ := List.mem_map.1 hu; rfl) (by omega) HA.out).mono ?_
        rintro e w1 ⟨v, rfl, hown, hfr1⟩
        obtain ⟨A', cp', rfl, _, hrow, hlt'⟩ := own_slice hown
        have HOWN := hide hown
        clear hlt' hrow hown
        go_upto_region 12 with (((with_reducible refine wpList_build_seq A' l.length cp' ?_ ?_); rfl))
        have hat : SeqAt (w1.alloc (.cells (seqZero (.slice A' l.length cp')) 137)) w1.heap.size { ord := l.map Int.toNat, st := 1, ph := 1, po := 0, sc := fun _ => false, rs := 0, lo := w.heap.size } := by
          refine seqAt_new (base := w.heap.size) (by simp) ?_
          rw [map_nv_toNat (fun d hd => ?_)]
          · exact own_base HOWN.out hfr.size
          · obtain ⟨i, hi⟩ := List.mem_iff_getElem?.1 hd
            have hil : i < l.length := (List.getElem?_eq_some_iff.1 hi).1
            exact (HG.out i d (by rw [HK.out]; exact hil) hi).1
        have hfr2 : Fr [] w (w1.alloc (.cells (seqZero (.slice A' l.length cp')) 137)) := ((hfr.call hfr1).alloc _)
        have hbg : w.heap.size ≤ w1.heap.size := (hfr.call hfr1).size
        generalize (w1.alloc (.cells (seqZero (.slice A' l.length cp')) 137)) = w2 at hat hfr2 ⊢
        generalize seqZero (.slice A' l.length cp') = zz
        generalize w1.heap.size = b at hat hbg ⊢
        have hgood : Good l := by
          have := HG.out
          rw [HK.out] at this
          exact this
        have HGOOD := hide hgood
        clear hgood hfr1 hfr
        by_cases hz : l.length = 0
        · have hb : ((l.length : Int) == 0) = true := by rw [beq_iff_eq]; omega
          have HZ := hide hz
          obtain ⟨A1, cp1, c0, c1, c2, c3, c4, hs, hf, hr, hoff⟩ := hat.cells
          have f1 := hf 1
          clear hz hs hf hr hoff c0 c2 c3 c4
          go_wp2
          go_ret2
          refine .inr ⟨⟨h64, HGOOD.out⟩, b, rfl, hbg, ?_, hfr2.set (.inr hbg) _⟩
          rw [if_pos HZ.out]
          exact hat.st_ 2
        · have hb : ((l.length : Int) == 0) = false := by rw [beq_eq_false_iff_ne]; omega
          have HZ := hide hz
          clear hz
          go_wp2
          go_ret2
          refine .inr ⟨⟨h64, HGOOD.out⟩, b, rfl, hbg, ?_, hfr2⟩
          rw [if_neg HZ.out]
          exact hat
  · have h64' : (64 : Int) < (l.length : Int) := by omega
    have H := hide h64
    clear hA hr h64
    go_enter Try.func32, Try.ntmps32
    go_wp2
    go_ret2
    exact .inl ⟨fun h => H.out h.1, rfl, Fr.refl _ _⟩
end Go.Proofs.Ytdocdgghphhdpaa

