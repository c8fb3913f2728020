/- Walks: the reference's New of rails. -/
import Derived.Test.YtdocdgghphhdpaaMgDeviceTree19
import Derived.Test.YtdocdgghphhdpaaRqW3Mg
import Derived.Test.YtdocdgghphhdpaaRlW5Mg
namespace Go.Proofs.Ytdocdgghphhdpaa
open Go.RowKit

def RqNewRet (w : World) (R : Nat → RailD) (n : Nat) (e : Ending) (w' : World) : Prop :=
  Fr [] w w' ∧ ((rqnewM R n ≠ 0 ∧ e = .returned (.tuple #[.pointer none, .int .i64 (rqnewM R n)])) ∨ (rqnewM R n = 0 ∧ ∃ P : RP, e = .returned (.tuple #[.pointer (some ⟨P.b, 0, none⟩), .int .i64 0]) ∧ P.n = n ∧ RqAt w' P R rsz ∧ RlNew P w.heap.size))
def QnRel (w : World) (R : Nat → RailD) (n m : Nat) (i : Value) (wr : World) : Prop :=
  ∃ k : Nat, k ≤ n ∧ i = .int .i64 (k : Int) ∧ (∀ j, j < k → railOkD n (R j)) ∧ w = wr ∧ m = n - k
def QnRel2 (w : World) (R : Nat → RailD) (n m : Nat) (i : Value) (wr : World) : Prop :=
  ∃ k : Nat, k ≤ n ∧ i = .int .i64 (k : Int) ∧ (∀ j, j < k → climbR R n (j : Int) < 0) ∧ w = wr ∧ m = n - k
def QnRel3 (w : World) (R : Nat → RailD) (n : Nat) (c : Int) (m : Nat) (v6 v7 : Value) (wr : World) : Prop :=
  ∃ (q : Nat) (a : Int), q ≤ n ∧ v7 = .int .i64 (q : Int) ∧ v6 = .int .i64 a ∧ climbR R (n - q) a = c ∧ a < (n : Int) ∧ w = wr ∧ m = n - q
theorem rail_info24 : (Try.prog.info? 49).map (fun i => (i.zero, i.size, i.bytes)) = some (some (.agg #[.int .i64 0, .int .u64 0, .int .u64 0]), 3, 24) := by kernel_rfl
theorem rlcs_len3 (R : Nat → RailD) (n : Nat) : (rlcs R n).length = n * 3 := by
  have := flat_length (f := fun i => rlc (R i)) (fun i => rlc_len (R i)) (List.range n)
  rw [List.length_range] at this
  exact this
section
variable {P : Program} (w : World)
theorem step_append_new {ops : Array Oper} {o : Oper} {a : Act} {K : Act → World → Prop} {Q : Exit → Act → World → Prop} {E : Prop} (hgd : o.guard = none) (s x : Operand) (t : TypeId)
    (ho : o.op = .call { callee := .builtin .append, args := #[s, x], argTypes := #[t, t] })
    (base : Nat) (e : TypeId) (i : TypeInfo) (z : Value) (size bytes : Nat) (ht : P.underlying t = some (.slice e)) (hi : P.info? e = some i) (hz : i.zero = some z)
    (hsize : i.size = size) (hby : i.bytes = bytes) (hzs : z.cells.size = size) (hsz : 0 < size)
    (v : Value) (hs : a.eval s = v) (hown : w.ownsRow base e size v 0 [])
    (A : Option Addr) (m c : Nat) (news : List Value) (hx : a.eval x = .slice A m c) (hl : news.length = m * size) (hr : Row w A news) (h1 : ∀ u ∈ news, u.oneCell' = true)
    (h63 : m ≤ maxLen) (hbytes : m * bytes ≤ 140737488355328) (hbase : base ≤ w.heap.size)
    (h : ∀ v' w', w'.ownsRow base e size v' m news → w.grownBy w' v.ownBlock → (v'.ownBlock = v.ownBlock ∨ v'.ownBlock = some w.heap.size) → K (a.put o.dst v') w') :
    if Region.wanted o (yielded ops a.tmps) = true then Oper.wp P o a w K Q else E :=
  step_append_row w hgd s x t ho base e i z size bytes ht hi hz hsize hby hzs hsz v 0 [] hs hown A m c news hx hl hr h1 (by rw [Nat.zero_add]; exact h63) (by rw [Nat.zero_add]; exact hbytes) hbase (fun v' w' h2 h3 h4 => h v' w' (by rw [Nat.zero_add, List.nil_append] at h2; exact h2) h3 h4)
end
theorem rFA_at2 {α : Type} {X w : World} {g n : Nat} {t : TypeId} {e : α → Value} {x : α} {S : List Nat} (h : Fr S (X.alloc (.cells (Array.replicate n (e x)) t)) w) (hg : g = X.heap.size) (hn : g ∉ S) : FA w g t e n (fun _ => x) := by
  subst hg
  exact (FA.new X t e x n).fr h hn
theorem own_empty_at {X w : World} {g base size : Nat} {t : TypeId} (h : Fr [] (X.alloc (.cells #[] t)) w) (hg : g = X.heap.size) (hb : base ≤ g) : w.ownsRow base t size (.slice (some ⟨g, 0, none⟩) 0 0) 0 [] :=
  own_of_blk (cs := []) (Blk.fr (S := []) (rBlk_new' hg) h (by simp)) hb (by simp) (by simp [maxLen])
theorem FA.newK {α : Type} {X : World} {g n : Nat} {t : TypeId} {e : α → Value} {x : α} (hg : g = X.heap.size) : FA (X.alloc (.cells (Array.replicate n (e x)) t)) g t e n (fun _ => x) := by
  subst hg
  exact FA.new X t e x n
theorem FA.allocK {α : Type} {w : World} {g n : Nat} {t : TypeId} {e : α → Value} {f : Nat → α} (h : FA w g t e n f) (o : Obj) : FA (w.alloc o) g t e n f := h.fr0 ((Fr.refl [] _).alloc o)
theorem FA.drewK {α : Type} {w : World} {g n : Nat} {t : TypeId} {e : α → Value} {f : Nat → α} (h : FA w g t e n f) : FA w.drew g t e n f := h.fr0 (Fr.refl [] _).drew
set_option maxHeartbeats 16000000 in
set_option maxRecDepth 100000 in
theorem rqnew_any (A : Option Addr) (cp n : Nat) (R : Nat → RailD) (w : World) (hr : Row w A (rlcs R n)) (hn : n ≤ maxLen) :
    Calls Try.prog 67 #[.slice A n cp] w (RqNewRet w R n) := by
  unfold maxLen at hn
  obtain ⟨i0, hi0, hz0, hz1, hz2⟩ := info_parts rail_info24
  have HI := hide (And.intro hi0 (And.intro hz0 (And.intro hz1 hz2)))
  have HR := hide hr
  clear hr hi0 hz0 hz1 hz2
  by_cases h64 : 64 < n
  · have hb : decide ((64 : Int) < (n : Int)) = true := decide_eq_true (by omega)
    have hbi : (64 : Int) < (n : Int) := by omega
    have HM : Hid (rqnewM R n = 1) := hide (by rw [rqnewM, if_pos h64])
    clear h64
    go_enter Try.func67, Try.ntmps67
    go_wp2
    go_ret2
    exact ⟨Fr.refl _ _, .inl ⟨by rw [HM.out]; decide, by rw [HM.out]; rfl⟩⟩
  have hb : decide ((64 : Int) < (n : Int)) = false := decide_eq_false (by omega)
  have hbi : ¬ (64 : Int) < (n : Int) := by omega
  have hn64 : n ≤ 64 := by omega
  have HM0 : Hid (rqnewM R n = if railsOkB R n = true then (if outB R n = true then 0 else 18) else 1) := hide (by rw [rqnewM, if_neg h64])
  clear h64
  go_enter Try.func67, Try.ntmps67
  go_wp2
  clear hb hbi
  go_loopg [4] n (fun m i wr => QnRel w R n m i wr)
  case atStart => exact ⟨0, by omega, rfl, fun j hj => by omega, rfl, rfl⟩
  case round =>
    obtain ⟨k, hk, rfl, hall, rfl, hmm⟩ := hrel
    have HALL := hide hall
    have HMM := hide hmm
    clear hall hmm
    by_cases hkn : k < n
    · have hki : (k : Int) < (n : Int) := by omega
      obtain ⟨ob, oo, rfl, hc⟩ := Row.el (f := fun i => rlc (R i)) (l := List.range n) (i := k) (a := k) (fun i => rlc_len (R i)) (by omega) HR.out (by simp [hkn])
      have r0 : w.cell? ⟨ob, oo + k * 3, none⟩ = some (.int .i64 (R k).sup) := hc 0 _ rfl
      have r1 : w.cell? ⟨ob, oo + k * 3 + 1, none⟩ = some (.int .u64 ((R k).up : Int)) := hc 1 _ rfl
      have r2 : w.cell? ⟨ob, oo + k * 3 + 2, none⟩ = some (.int .u64 ((R k).dn : Int)) := hc 2 _ rfl
      have HST : Hid (railOkD n (R k) → ∀ j, j < k + 1 → railOkD n (R j)) := hide (fun h j hj => by
        by_cases e : j = k
        · subst e; exact h
        · exact HALL.out j (by omega))
      have HNO : Hid (¬ railOkD n (R k) → rqnewM R n = 1) := hide (fun h => by rw [HM0.out, railsOkB_no hkn h]; rfl)
      have HOKD := hide (show railOkD n (R k) ↔ (-1 ≤ (R k).sup ∧ (R k).sup < (n : Int) ∧ (R k).up ≤ 1048576 ∧ (R k).dn ≤ 1048576) from Iff.rfl)
      generalize (R k).sup = sp at HOKD r0
      generalize (R k).up = u1 at HOKD r1
      generalize (R k).dn = u2 at HOKD r2
      clear hc
      by_cases hg : -1 ≤ sp ∧ sp < (n : Int) ∧ u1 ≤ 1048576 ∧ u2 ≤ 1048576
      · have HG := hide (HST.out (HOKD.out.2 hg))
        have b1 : decide (sp < -1) = false := decide_eq_false (by omega)
        have b2 : decide ((n : Int) ≤ sp) = false := decide_eq_false (by omega)
        have b3 : decide ((1048576 : Int) < (u1 : Int)) = false := decide_eq_false (by omega)
        have b4 : decide ((1048576 : Int) < (u2 : Int)) = false := decide_eq_false (by omega)
        clear HOKD HST HNO hg
        go_wp2
        go_roundg (n - (k + 1))
        case measure => rw [HMM.out]; omega
        case rel => exact ⟨k + 1, by omega, by go_num, HG.out, rfl, rfl⟩
      · have HNE : Hid (rqnewM R n = 1) := hide (HNO.out (fun h => hg (HOKD.out.1 h)))
        have hcase : (decide (sp < -1) = true) ∨ (decide (sp < -1) = false ∧ decide ((n : Int) ≤ sp) = true) ∨ (decide (sp < -1) = false ∧ decide ((n : Int) ≤ sp) = false ∧ decide ((1048576 : Int) < (u1 : Int)) = true) ∨ (decide (sp < -1) = false ∧ decide ((n : Int) ≤ sp) = false ∧ decide ((1048576 : Int) < (u1 : Int)) = false ∧ decide ((1048576 : Int) < (u2 : Int)) = true) := by
          simp only [decide_eq_true_eq, decide_eq_false_iff_not]
          omega
        clear HOKD HST HNO hg
        rcases hcase with b1 | ⟨b1, b2⟩ | ⟨b1, b2, b3⟩ | ⟨b1, b2, b3, b4⟩
        all_goals
          go_wp2
          go_ret2
          exact ⟨Fr.refl _ _, .inl ⟨by rw [HNE.out]; decide, by rw [HNE.out]; rfl⟩⟩
    · have hke : k = n := by omega
      subst hke
      have hki : ¬ (k : Int) < (k : Int) := by omega
      have HM1 : Hid (rqnewM R k = if outB R k = true then 0 else 18) := hide (by rw [HM0.out, railsOkB_yes HALL.out]; rfl)
      go_wp2
      clear hki
      go_loopg [5] k (fun m i wr => QnRel2 w R k m i wr)
      case atStart => exact ⟨0, by omega, rfl, fun j hj => by omega, rfl, rfl⟩
      case round =>
        obtain ⟨i, hi, rfl, hout, rfl, hmm⟩ := hrel
        have HOUT := hide hout
        have HMI := hide hmm
        clear hout hmm
        by_cases hin : i < k
        · have hii : (i : Int) < (k : Int) := by omega
          obtain ⟨c, hc⟩ : ∃ c, c = climbR R k (i : Int) := ⟨_, rfl⟩
          have HC := hide hc
          clear hc
          go_wp2
          go_loopg [6, 7] k (fun m v6 v7 wr => QnRel3 w R k c m v6 v7 wr)
          case atStart => exact ⟨0, (i : Int), by omega, rfl, rfl, HC.out.symm, hii, rfl, rfl⟩
          case round =>
            obtain ⟨q, a, hq, rfl, rfl, hcl, han, rfl, hmm⟩ := hrel
            have HCL := hide hcl
            have HMQ := hide hmm
            clear hcl hmm
            by_cases hgo : q < k ∧ 0 ≤ a
            · obtain ⟨hqk, ha0⟩ := hgo
              obtain ⟨p, rfl⟩ := Int.eq_ofNat_of_zero_le ha0
              have hpk : p < k := by omega
              have hqi : (q : Int) < (k : Int) := by omega
              have b1 : decide ((q : Int) < (k : Int)) = true := decide_eq_true hqi
              have b2 : decide ((0 : Int) ≤ (p : Int)) = true := decide_eq_true ha0
              have hpi : (p : Int) < (k : Int) := by omega
              obtain ⟨ob, oo, rfl, hc⟩ := Row.el (f := fun i => rlc (R i)) (l := List.range k) (i := p) (a := p) (fun i => rlc_len (R i)) (by omega) HR.out (by simp [hpk])
              have r0 : w.cell? ⟨ob, oo + p * 3, none⟩ = some (.int .i64 (R p).sup) := hc 0 _ rfl
              have hsb := (HALL.out p hpk).2.1
              have HCN : Hid (climbR R (k - (q + 1)) (R p).sup = c) := hide (by
                have h := HCL.out
                rw [show k - q = k - (q + 1) + 1 by omega, climb_s, if_pos ha0, Int.toNat_natCast] at h
                exact h)
              generalize (R p).sup = sp at r0 hsb HCN
              clear hc
              go_wp2
              go_roundg (k - (q + 1))
              case measure => rw [HMQ.out]; omega
              case rel => exact ⟨q + 1, sp, by omega, by go_num, rfl, HCN.out, hsb, rfl, rfl⟩
            · have hce : c = a := by
                rw [← HCL.out]
                by_cases h0 : 0 ≤ a
                · rw [show k - q = 0 by omega]
                  rfl
                · exact climb_neg R (by omega) _
              have HCE := hide hce
              have hexit : (decide ((q : Int) < (k : Int)) = false ∧ decide (q < k) = false ∧ ¬ (q : Int) < (k : Int)) ∨ (decide ((q : Int) < (k : Int)) = true ∧ decide ((0 : Int) ≤ a) = false ∧ a < 0 ∧ decide (q < k) = true ∧ (q : Int) < (k : Int) ∧ ¬ (0 : Int) ≤ a) := by
                by_cases h1 : q < k
                · have h2 : ¬ 0 ≤ a := fun h => hgo ⟨h1, h⟩
                  exact .inr ⟨decide_eq_true (by omega), decide_eq_false h2, by omega, decide_eq_true h1, by omega, h2⟩
                · exact .inl ⟨decide_eq_false (by omega), decide_eq_false h1, by omega⟩
              clear hce hgo
              by_cases ha : 0 ≤ a
              · have b3 : decide ((0 : Int) ≤ a) = true := decide_eq_true ha
                have HNE : Hid (rqnewM R k = 18) := hide (by
                  rw [HM1.out, if_neg (fun h => by
                    have h1 := of_decide_eq_true (List.all_eq_true.1 h i (List.mem_range.2 hin))
                    rw [← HC.out, HCE.out] at h1
                    omega)])
                rcases hexit with ⟨b1, b1n, b1i⟩ | ⟨b1, b2, b2i, b1n, b1i, b2n⟩
                · go_wp2
                  go_ret2
                  exact ⟨Fr.refl _ _, .inl ⟨by rw [HNE.out]; decide, by rw [HNE.out]; rfl⟩⟩
                · omega
              · have b3 : decide ((0 : Int) ≤ a) = false := decide_eq_false ha
                have HNX : Hid (∀ j, j < i + 1 → climbR R k (j : Int) < 0) := hide (fun j hj => by
                  by_cases e : j = i
                  · subst e
                    rw [← HC.out, HCE.out]
                    omega
                  · exact HOUT.out j (by omega))
                rcases hexit with ⟨b1, b1n, b1i⟩ | ⟨b1, b2, b2i, b1n, b1i, b2n⟩
                · go_wp2
                  go_roundg (k - (i + 1))
                  case measure => rw [HMI.out]; omega
                  case rel => exact ⟨i + 1, by omega, by go_num, HNX.out, rfl, rfl⟩
                · go_wp2
                  go_roundg (k - (i + 1))
                  case measure => rw [HMI.out]; omega
                  case rel => exact ⟨i + 1, by omega, by go_num, HNX.out, rfl, rfl⟩
        · have hie : i = k := by omega
          subst hie
          have hii : ¬ (i : Int) < (i : Int) := by omega
          have HZ : Hid (rqnewM R i = 0) := hide (by
            rw [HM1.out, if_pos (show outB R i = true from List.all_eq_true.2 (fun j hj => decide_eq_true (HOUT.out j (List.mem_range.1 hj))))])
          have m1 := make_ints i i (Nat.le_refl _) (by omega)
          have m2 := rmake_u64s i i (Nat.le_refl _) (by omega)
          go_upto_region 18 with (fail)
          go_region_law ((refine step_append_new _ (by rfl) (.tmp 73) (.tmp 74) 23 (by rfl) w.heap.size 49 i0 (.agg #[.int .i64 0, .int .u64 0, .int .u64 0]) 3 24 Try.underlying23 HI.out.1 HI.out.2.1 HI.out.2.2.1 HI.out.2.2.2 rfl (by omega) (.slice (some ⟨_, 0, none⟩) 0 0) (by rfl) (by apply own_empty_at; (case h => repeat (first | exact Fr.refl _ _ | refine Fr.drewN ?_ _ | refine Fr.drew ?_ | refine Fr.alloc ?_ _)); (case hg => first | rfl | simp); (case hb => first | exact Nat.le_refl _ | (simp; done) | (simp; omega) | omega)) A i cp (rlcs R i) (by rfl) (rlcs_len3 R i) (by refine HR.out.fr0 ?_; repeat (first | exact Fr.refl _ _ | refine Fr.drewN ?_ _ | refine Fr.drew ?_ | refine Fr.alloc ?_ _)) (rlcs_one R i) (by simp only [maxLen]; omega) (by omega) (by first | exact Nat.le_refl _ | (simp; done) | (simp; omega) | omega) ?_; intro v3 w3 hown3 hg3 hat3; obtain ⟨A3, c3, rfl, -, hrow3, hlow3⟩ := own_slice hown3))
          all_goals
            clear m1 m2
            have hf3 := Fr.of_grown hg3
            have hsz3 := hf3.size
            have HROW3 := hide hrow3
            have HLO3 : Hid (∀ ad, A3 = some ad → w.heap.size ≤ ad.block ∧ ad.block < w3.heap.size) := hide hlow3
            have HAT3 := hide hat3
            simp at hsz3
            clear hown3 hg3 hat3 hrow3 hlow3
            go_wp2
            go_ret2
            have hw3 : Fr [] w w3 := by
              refine Fr.step ?frA hf3 ?frB
              case frA => repeat (first | exact Fr.refl _ _ | refine Fr.drewN ?_ _ | refine Fr.drew ?_ | refine Fr.alloc ?_ _)
              case frB =>
                intro y hy
                simp [Value.ownBlock] at hy
                exact .inr (by omega)
            refine ⟨?fr, .inr ⟨HZ.out, ⟨_, _, _, _, _, _, _, _⟩, rfl, rfl, ⟨rBlk_new' (by simp), HROW3.out.fr0 ?row, ?cnt, ?dn, ?off, ?low, hn64⟩, ?new⟩⟩
            case fr => repeat (first | exact hw3 | refine Fr.drewN ?_ _ | refine Fr.drew ?_ | refine Fr.alloc ?_ _)
            case row => repeat (first | exact Fr.refl _ _ | refine Fr.drewN ?_ _ | refine Fr.drew ?_ | refine Fr.alloc ?_ _)
            case cnt => iterate 6 (first | done | exact FA.newK (e := nv) (x := 0) (by simp; done) | (with_reducible refine FA.allocK ?_ _) | (with_reducible refine FA.drewK ?_) | (with_reducible refine FA.fr ?_ hf3 ?hm; (case hm => simp [Value.ownBlock] <;> omega)))
            case dn => iterate 6 (first | done | exact FA.newK (e := rv) (x := 0) (by simp; done) | (with_reducible refine FA.allocK ?_ _) | (with_reducible refine FA.drewK ?_) | (with_reducible refine FA.fr ?_ hf3 ?hm; (case hm => simp [Value.ownBlock] <;> omega)))
            case off =>
              intro ad e hm
              have e' : A3 = some ad := e
              have h1 := HAT3.out
              have h2 := HLO3.out ad e'
              rw [e'] at h1
              simp [Value.ownBlock] at h1 hm
              omega
            case low =>
              intro ad e
              have := HLO3.out ad e
              try simp
              omega
            case new =>
              refine ⟨?_, ?_, ?_, fun ad e => (HLO3.out ad e).1⟩
              · first | (simp; done) | (simp; omega) | omega
              · first | (simp; done) | (simp; omega) | omega
              · first | (simp; done) | (simp; omega) | omega
end Go.Proofs.Ytdocdgghphhdpaa

