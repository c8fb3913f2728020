/- Walks: rails.Rails: add (by induction on the chain of supplies). -/
import Derived.Test.YtdocdgghphhdpaaProg
import Derived.Test.YtdocdgghphhdpaaMgDeviceTree4
import Derived.Deep.DeepCutAuto
import Derived.Deep.QuietTactic
import Derived.BigQuiet
import Derived.Lib.Hide
import Derived.Deep.LoopGhost
import Derived.StillTailTactics
namespace Go.Proofs.Ytdocdgghphhdpaa
open Go.RowKit

theorem rop_info : (Try.prog.info? 54).map (fun i => (i.zero, i.size, i.bytes)) = some (some (.agg #[.int .i64 0, .bool false, .int .u64 0, .int .u64 0]), 4, 32) := by kernel_rfl
def AddRet (base : Nat) (w : World) (P : RP) (R : Nat → RailD) (ops : List ROp) (r : RSt × List ROp) (e : Ending) (w' : World) : Prop :=
  ∃ v, e = .returned v ∧ RlAt w' P R r.1 ∧ w'.ownsRow base 54 4 v (ops ++ r.2).length (ropcs (ops ++ r.2)) ∧ FrX [P.gB, P.gC] base w w'
theorem row_four5 (w : World) (t : TypeId) (a b c d : Value) : Row (w.alloc (.cells #[a, b, c, d] t)) (some ⟨w.heap.size, 0, none⟩) [a, b, c, d] := row_lit w #[a, b, c, d] t rfl
theorem own_above {w : World} {base g : Nat} {e : TypeId} {size n : Nat} {v : Value} {xs : List Value} (h : w.ownsRow base e size v n xs) (hg : g < base) : ∀ y, v.ownBlock = some y → y ∉ [g] := fun y hy hm => by
  have := (own_block h hy).1
  have : y = g := by simpa using hm
  omega
theorem max_nat_int {a b : Nat} : ((max a b : Nat) : Int) = if (a : Int) < (b : Int) then (b : Int) else (a : Int) := by
  by_cases h : a < b
  · rw [if_pos (by omega)]; omega
  · rw [if_neg (by omega)]; omega
def AddCut (base : Nat) (w : World) (P : RP) (R : Nat → RailD) (ops : List ROp) (k : Nat) (r : RSt × List ROp) (v3 v9 : Value) (wx : World) : Prop :=
  ∃ (st : Nat) (s1 : RSt) (news all : List ROp) (A1 : Option Addr) (cp1 : Nat), v9 = .int .u64 (st : Int) ∧ v3 = .slice A1 all.length cp1 ∧ RlAt wx P R s1 ∧ wx.ownsRow base 54 4 (.slice A1 all.length cp1) all.length (ropcs all) ∧ FrX [P.gB, P.gC] base w wx ∧ r = addFin R k st s1 news ∧ s1.cnt k = 0 ∧ all.length ≤ 3000 ∧ all = ops ++ news
theorem add_len (R : Nat → RailD) (now : Nat) : ∀ (k : Nat) (L : List Nat) (s : RSt), (addC R now k L s).2.length ≤ L.length + 1
  | k, [], s => by unfold addC; split <;> simp [addFin]
  | k, q :: L, s => by
    have h := add_len R now q L s
    unfold addC
    split
    · simp [addFin]; omega
    · simp
set_option maxHeartbeats 8000000 in
set_option maxRecDepth 100000 in
theorem radd_any {base : Nat} {P : RP} {R : Nat → RailD} {now k : Nat} {L : List Nat} (hc : Chn P.n R k L) : ∀ (s : RSt) (ops : List ROp) (v : Value) (w : World), RlAt w P R s → (∀ j, j < P.n → s.cnt j ≤ 100000) → RlLow P base → base ≤ w.heap.size → w.ownsRow base 54 4 v ops.length (ropcs ops) → ops.length + L.length ≤ 2000 →
    Calls Try.prog 105 #[.pointer (some ⟨P.b, 0, none⟩), .int .i64 (k : Int), .int .u64 (now : Int), v] w (AddRet base w P R ops (addC R now k L s)) := by
  obtain ⟨i0, hi0, hz0, hz1, hz2⟩ := info_parts rop_info
  have HI := hide (And.intro hi0 (And.intro hz0 (And.intro hz1 hz2)))
  clear hi0 hz0 hz1 hz2
  induction hc with
  | @root k hk hs =>
    intro s ops v w hat hcn hlow hbase hown hlen
    obtain ⟨A0, cp0, rfl, -, -, -⟩ := own_slice hown
    have HAT := hide hat
    have HCN := hide hcn
    have HLOW := hide hlow
    have HOWN := hide hown
    have HSUP := hide hs
    obtain ⟨c0, c1, c2, c3⟩ := hat.cells
    have d0 := hat.cntAt hk
    have d1 := hat.dnAt hk
    have hki : (k : Int) < (P.n : Int) := by omega
    have hn64 := hat.n64
    have hck := hcn k hk
    have HD := hide (show addC R now k [] s = if s.cnt k = 0 then addFin R k (max now (s.dn k)) s [] else (incR k s, []) from by rw [addC])
    clear hat hcn hlow hown hs
    by_cases hz : s.cnt k = 0
    · rw [hz] at d0
      have HD2 := HD.out
      rw [if_pos hz] at HD2
      have HD3 := hide HD2
      have HZ := hide hz
      obtain ⟨m0, hm0⟩ : ∃ m0, m0 = max now (s.dn k) := ⟨_, rfl⟩
      rw [← hm0] at HD3
      have HM0 := hide hm0
      obtain ⟨ob, oo, hA, r0, -, -⟩ := HAT.out.rail hk
      have HA := hide hA
      rw [hA] at c0
      have hneg : ¬ (0 : Int) ≤ (R k).sup := by have := HSUP.out; omega
      clear HD HD2 hz hm0 hA
      go_enter Try.func105, Try.ntmps105
      go_upto_region 2 with (fail)
      go_cut [9] (fun v wx => v = .int .u64 (m0 : Int) ∧ w = wx)
      case first =>
        have hmi : (m0 : Int) = if (now : Int) < (s.dn k : Int) then (s.dn k : Int) else (now : Int) := by rw [HM0.out]; exact max_nat_int
        have HMI := hide hmi
        clear hmi
        by_cases hlt : (now : Int) < (s.dn k : Int)
        · go_wp2
          all_goals
            go_meet
            refine ⟨?_, rfl⟩
            rw [HMI.out]
            first | rw [if_pos hlt] | (congr 1; omega)
        · go_wp2
          all_goals
            go_meet
            refine ⟨?_, rfl⟩
            rw [HMI.out]
            first | rw [if_neg hlt] | (congr 1; omega)
      case rest =>
        obtain ⟨rfl, rfl⟩ := hcut
        go_upto_if 37 with (fail)
        go_cut [3, 9] (fun v3 v9 wx => AddCut base w P R ops k (addC R now k [] s) v3 v9 wx)
        case first =>
          go_wp2
          go_meet
          exact ⟨m0, s, [], ops, A0, cp0, rfl, rfl, HAT.out, HOWN.out, FrX.refl _ _ _, HD3.out, HZ.out, by simp at hlen ⊢; omega, by rw [List.append_nil]⟩
        case rest =>
        obtain ⟨st, s1, news, all, A1, cp1, rfl, rfl, hat1, hown1, hfx1, hre1, hz1, hnl, hall⟩ := hcut
        have HALL := hide hall
        have HAT1 := hide hat1
        have HOWN1 := hide hown1
        have HFX1 := hide hfx1
        have HRE := hide hre1
        clear hat1 hown1 hfx1 hre1 hall c1 c2 c3 d1
        obtain ⟨c0', c1', c2', c3'⟩ := HAT1.out.cells
        rw [HA.out] at c0'
        have d0' := HAT1.out.cntAt hk
        rw [hz1] at d0'
        have d1' := HAT1.out.dnAt hk
        obtain ⟨ob', oo', hA', -, r1', -⟩ := HAT1.out.rail hk
        rw [HA.out] at hA'
        injection hA' with hA'
        injection hA' with e1 e2
        subst e1 e2
        have f1 := HAT1.out.dn.frozen k
        obtain ⟨d, hd⟩ : ∃ d, d = (st + (R k).up) % W64 := ⟨_, rfl⟩
        have hwr : IntKind.u64.wrap ((st : Int) + ((R k).up : Int)) = (d : Int) := by rw [IntKind.wrap_u64, hd]; unfold W64; omega
        have HDD := hide hd
        have HAT2 := hide ((HAT1.out.setDn k d).fr0 (Fr.refl [] _).drew)
        have hfr2 : Fr [P.gC] wc ((wc.setCell ⟨P.gC, k, none⟩ (.int .u64 (d : Int))).drew) := ((Fr.refl _ _).set (.inl (by simp)) _).drew
        have HOWN2 := hide (own_fr HOWN1.out hfr2 (own_above HOWN1.out HLOW.out.2.2.1))
        have HFX2 := hide (HFX1.out.trans ⟨[P.gC], fun y hy => .inl (by simp at hy; simp [hy]), hfr2⟩)
        generalize (R k).up = u at r1' hwr
        have hc1' := hz1
        clear hd hz1 hfr2
        go_upto_region 7 with (fail)
        go_still_tail 16, (by kernel_rfl)
        repeat still_step
        go_upto_region 8 with (fail)
        clear c0' c1' c2' c3' d0' d1' f1 r1'
        generalize (wc.setCell ⟨P.gC, k, none⟩ (.int .u64 (d : Int))).drew = w2 at HAT2 HOWN2 HFX2 ⊢
        obtain ⟨c0', c1', c2', c3'⟩ := HAT2.out.cells
        have d1' := HAT2.out.dnAt hk
        simp only [rup_same] at d1'
        have hs2 : base ≤ w2.heap.size + 1 := by have := HFX2.out.size; omega
        go_upto_region 9 with (first
          | (at_builtin
             refine wpList_append_row _ rfl (.tmp 68) (.tmp 79) _ rfl base 54 i0 (.agg #[.int .i64 0, .bool false, .int .u64 0, .int .u64 0]) 4 32 Try.underlying39 HI.out.1 HI.out.2.1 HI.out.2.2.1 HI.out.2.2.2 rfl (by omega) (.slice A1 all.length cp1) all.length (ropcs all) rfl
               (own_fr HOWN2.out ((Fr.refl [] _).alloc _) (fun _ _ => by simp)) (some ⟨w2.heap.size, 0, none⟩) 1 1 [.int .i64 (k : Int), .bool true, .int .u64 (st : Int), .int .u64 (d : Int)] rfl rfl (row_four5 w2 _ _ _ _ _) (by intro u hu; simp at hu; rcases hu with rfl | rfl | rfl | rfl <;> rfl) (by simp only [maxLen]; omega) (by omega) (by simpa using hs2) ?_
             intro v3 w3 hown3 hg3 hat3))
        clear c0' c1' c2' c3' d1'
        obtain ⟨A3, cp3, rfl, -, -, -⟩ := own_slice hown3
        have hf23 : Fr (Value.slice A1 all.length cp1).ownBlock.toList w2 w3 := ((Fr.refl _ w2).alloc _).trans (Fr.of_grown hg3)
        have hob : ∀ y ∈ (Value.slice A1 all.length cp1).ownBlock.toList, base ≤ y := fun y hy => (own_block HOWN2.out (by simpa using hy)).1
        have HAT3 := hide (HAT2.out.frGe hf23 HLOW.out hob)
        have HFX3 := hide (HFX2.out.trans (⟨_, fun y hy => .inr (hob y hy), hf23⟩ : FrX [P.gB, P.gC] base w2 w3))
        have HOWN3 := hide hown3
        have HCNT : Hid (rup s1.dn k d = rup s1.dn k d) := hide rfl
        clear hown3 hg3 hat3 hf23 hob HAT2 HOWN2 HFX2 hs2
        obtain ⟨c0', c1', c2', c3'⟩ := HAT3.out.cells
        have d0' : w3.cell? ⟨P.gB, k, none⟩ = some (.int .i64 (s1.cnt k : Int)) := HAT3.out.cntAt hk
        have f0' := HAT3.out.cnt.frozen k
        have HC1 := hide hc1'
        rw [HC1.out] at d0'
        have HAT4 := hide (HAT3.out.setCnt k 1)
        have hfr4 : Fr [P.gB] w3 (w3.setCell ⟨P.gB, k, none⟩ (.int .i64 ((1 : Nat) : Int))) := (Fr.refl _ _).set (.inl (by simp)) _
        have HOWN4 := hide (own_fr HOWN3.out hfr4 (own_above HOWN3.out HLOW.out.2.1))
        have HFX4 := hide (HFX3.out.trans ⟨[P.gB], fun y hy => .inl (by simp at hy; simp [hy]), hfr4⟩)
        clear hfr4 hc1'
        go_wp2
        go_ret
        refine ⟨_, rfl, ?_, ?_, HFX4.out⟩
        · rw [HRE.out]
          have e : (addFin R k st s1 news).1 = { s1 with dn := rup s1.dn k d, cnt := rup s1.cnt k 1 } := by simp [addFin, incR, HC1.out, HDD.out]
          rw [e]
          exact HAT4.out
        · rw [HRE.out]
          show World.ownsRow _ _ _ _ _ (ops ++ (news ++ ([⟨k, true, st, (st + (R k).up) % W64⟩] : List ROp))).length (ropcs (ops ++ (news ++ ([⟨k, true, st, (st + (R k).up) % W64⟩] : List ROp))))
          rw [← HDD.out, ← List.append_assoc, ← HALL.out, ropcs_snoc, List.length_append]
          exact HOWN4.out
    · have HD2 := HD.out
      rw [if_neg hz] at HD2
      have HD3 := hide HD2
      have hb : ((s.cnt k : Int) == 0) = false := beq_eq_false_iff_ne.2 (by omega)
      have hwr : IntKind.i64.wrap ((s.cnt k : Int) + 1) = (s.cnt k : Int) + 1 := by simp [IntKind.wrap, IntKind.signed, IntKind.bits]; omega
      have f0 := HAT.out.cnt.frozen k
      have HAT2 := hide (HAT.out.setCnt k (s.cnt k + 1))
      have hfr : Fr [P.gB] w (w.setCell ⟨P.gB, k, none⟩ (.int .i64 ((s.cnt k + 1 : Nat) : Int))) := (Fr.refl _ _).set (.inl (by simp)) _
      have HO2 := hide (own_fr HOWN.out hfr (own_above HOWN.out HLOW.out.2.1))
      have HFX := hide (show FrX [P.gB, P.gC] base w (w.setCell ⟨P.gB, k, none⟩ (.int .i64 ((s.cnt k + 1 : Nat) : Int))) from (FrX.refl _ _ _).set (by simp) _)
      clear HD HD2 hz hfr
      go_enter Try.func105, Try.ntmps105
      go_wp2
      go_ret
      refine ⟨_, rfl, ?_, ?_, ?_⟩
      · rw [HD3.out]; exact HAT2.out
      · rw [HD3.out, List.append_nil]; exact HO2.out
      · exact HFX.out
  | @next k q L hk hs hc hn ih =>
    intro s ops v w hat hcn hlow hbase hown hlen
    obtain ⟨A0, cp0, rfl, -, -, -⟩ := own_slice hown
    have HAT := hide hat
    have HCN := hide hcn
    have HLOW := hide hlow
    have HOWN := hide hown
    have HSUP := hide hs
    obtain ⟨c0, c1, c2, c3⟩ := hat.cells
    have d0 := hat.cntAt hk
    have d1 := hat.dnAt hk
    have hki : (k : Int) < (P.n : Int) := by omega
    have hn64 := hat.n64
    have hck := hcn k hk
    have hkl := hc.lt
    have HIH := hide ih
    have HN := hide hn
    have HD := hide (show addC R now k (q :: L) s = if s.cnt k = 0 then addFin R k (max (max now (s.dn k)) ((addC R now q L s).1.dn q)) (addC R now q L s).1 (addC R now q L s).2 else (incR k s, []) from by rw [addC])
    clear ih hat hcn hlow hown hn hs
    by_cases hz : s.cnt k = 0
    · rw [hz] at d0
      have HD2 := HD.out
      rw [if_pos hz] at HD2
      have HD3 := hide HD2
      have HZ := hide hz
      obtain ⟨m0, hm0⟩ : ∃ m0, m0 = max now (s.dn k) := ⟨_, rfl⟩
      rw [← hm0] at HD3
      have HM0 := hide hm0
      obtain ⟨ob, oo, hA, r0, -, -⟩ := HAT.out.rail hk
      have HA := hide hA
      rw [hA] at c0
      rw [HSUP.out] at r0
      have hq0 : (0 : Int) ≤ (q : Int) := by omega
      clear HD HD2 hz hm0 hA
      go_enter Try.func105, Try.ntmps105
      go_upto_region 2 with (fail)
      go_cut [9] (fun v wx => v = .int .u64 (m0 : Int) ∧ w = wx)
      case first =>
        have hmi : (m0 : Int) = if (now : Int) < (s.dn k : Int) then (s.dn k : Int) else (now : Int) := by rw [HM0.out]; exact max_nat_int
        have HMI := hide hmi
        clear hmi
        by_cases hlt : (now : Int) < (s.dn k : Int)
        · go_wp2
          all_goals
            go_meet
            refine ⟨?_, rfl⟩
            rw [HMI.out]
            first | rw [if_pos hlt] | (congr 1; omega)
        · go_wp2
          all_goals
            go_meet
            refine ⟨?_, rfl⟩
            rw [HMI.out]
            first | rw [if_neg hlt] | (congr 1; omega)
      case rest =>
        obtain ⟨rfl, rfl⟩ := hcut
        go_upto_if 37 with (fail)
        go_cut [3, 9] (fun v3 v9 wx => AddCut base w P R ops k (addC R now k (q :: L) s) v3 v9 wx)
        case first =>
          go_wp2_with fail
          have hl1 := add_len R now q L s
          refine (HIH.out s ops _ w HAT.out HCN.out HLOW.out hbase HOWN.out (by simp at hlen; omega)).mono ?_
          rintro e w1 ⟨v1, rfl, hat1, hown1, hfx1⟩
          have hk1 := (add_far (R := R) (now := now) (s := s) HN.out).1
          rw [HZ.out] at hk1
          generalize addC R now q L s = r1 at HD3 hat1 hown1 hk1 hl1
          obtain ⟨s1, news⟩ := r1
          simp only at HD3 hat1 hown1 hk1 hl1
          obtain ⟨all, hall⟩ : ∃ all, all = ops ++ news := ⟨_, rfl⟩
          rw [← hall] at hown1
          have HALL := hide hall
          have hal : all.length ≤ 3000 := by rw [hall]; simp at hlen ⊢; omega
          obtain ⟨A1, cp1, rfl, -, -, -⟩ := own_slice hown1
          clear hall
          have HAT1 := hide hat1
          have HOWN1 := hide hown1
          obtain ⟨g0, g1, g2, g3⟩ := hat1.cells
          have g4 := hat1.dnAt hkl
          obtain ⟨m1, hm1⟩ : ∃ m1, m1 = max m0 (s1.dn q) := ⟨_, rfl⟩
          rw [← hm1] at HD3
          have hmi : (m1 : Int) = if (m0 : Int) < (s1.dn q : Int) then (s1.dn q : Int) else (m0 : Int) := by rw [hm1]; exact max_nat_int
          have HMI := hide hmi
          have hqi : (q : Int) < (P.n : Int) := by omega
          have HFIN : Hid (AddCut base w P R ops k (addC R now k (q :: L) s) (.slice A1 all.length cp1) (.int .u64 (m1 : Int)) w1) := hide ⟨m1, s1, news, all, A1, cp1, rfl, rfl, HAT1.out, HOWN1.out, hfx1, HD3.out, hk1, hal, HALL.out⟩
          have HFX1 := hide hfx1
          clear hmi hm1 hat1 hown1 hfx1 hk1 c0 c1 c2 c3 d0 d1 r0
          by_cases hlt : (m0 : Int) < (s1.dn q : Int)
          · rw [if_pos hlt] at HMI
            go_wp2
            all_goals
              go_meet
              first | (rw [← HMI.out]; exact HFIN.out) | (rw [show (m0 : Int) = (m1 : Int) by rw [HMI.out]; omega]; exact HFIN.out)
          · rw [if_neg hlt] at HMI
            go_wp2
            all_goals
              go_meet
              first | (rw [← HMI.out]; exact HFIN.out) | (rw [show (s1.dn q : Int) = (m1 : Int) by rw [HMI.out]; omega]; exact HFIN.out)
        case rest =>
        obtain ⟨st, s1, news, all, A1, cp1, rfl, rfl, hat1, hown1, hfx1, hre1, hz1, hnl, hall⟩ := hcut
        have HALL := hide hall
        have HAT1 := hide hat1
        have HOWN1 := hide hown1
        have HFX1 := hide hfx1
        have HRE := hide hre1
        clear hat1 hown1 hfx1 hre1 hall c1 c2 c3 d1
        obtain ⟨c0', c1', c2', c3'⟩ := HAT1.out.cells
        rw [HA.out] at c0'
        have d0' := HAT1.out.cntAt hk
        rw [hz1] at d0'
        have d1' := HAT1.out.dnAt hk
        obtain ⟨ob', oo', hA', -, r1', -⟩ := HAT1.out.rail hk
        rw [HA.out] at hA'
        injection hA' with hA'
        injection hA' with e1 e2
        subst e1 e2
        have f1 := HAT1.out.dn.frozen k
        obtain ⟨d, hd⟩ : ∃ d, d = (st + (R k).up) % W64 := ⟨_, rfl⟩
        have hwr : IntKind.u64.wrap ((st : Int) + ((R k).up : Int)) = (d : Int) := by rw [IntKind.wrap_u64, hd]; unfold W64; omega
        have HDD := hide hd
        have HAT2 := hide ((HAT1.out.setDn k d).fr0 (Fr.refl [] _).drew)
        have hfr2 : Fr [P.gC] wc ((wc.setCell ⟨P.gC, k, none⟩ (.int .u64 (d : Int))).drew) := ((Fr.refl _ _).set (.inl (by simp)) _).drew
        have HOWN2 := hide (own_fr HOWN1.out hfr2 (own_above HOWN1.out HLOW.out.2.2.1))
        have HFX2 := hide (HFX1.out.trans ⟨[P.gC], fun y hy => .inl (by simp at hy; simp [hy]), hfr2⟩)
        generalize (R k).up = u at r1' hwr
        have hc1' := hz1
        clear hd hz1 hfr2
        go_upto_region 7 with (fail)
        go_still_tail 16, (by kernel_rfl)
        repeat still_step
        go_upto_region 8 with (fail)
        clear c0' c1' c2' c3' d0' d1' f1 r1'
        generalize (wc.setCell ⟨P.gC, k, none⟩ (.int .u64 (d : Int))).drew = w2 at HAT2 HOWN2 HFX2 ⊢
        obtain ⟨c0', c1', c2', c3'⟩ := HAT2.out.cells
        have d1' := HAT2.out.dnAt hk
        simp only [rup_same] at d1'
        have hs2 : base ≤ w2.heap.size + 1 := by have := HFX2.out.size; omega
        go_upto_region 9 with (first
          | (at_builtin
             refine wpList_append_row _ rfl (.tmp 68) (.tmp 79) _ rfl base 54 i0 (.agg #[.int .i64 0, .bool false, .int .u64 0, .int .u64 0]) 4 32 Try.underlying39 HI.out.1 HI.out.2.1 HI.out.2.2.1 HI.out.2.2.2 rfl (by omega) (.slice A1 all.length cp1) all.length (ropcs all) rfl
               (own_fr HOWN2.out ((Fr.refl [] _).alloc _) (fun _ _ => by simp)) (some ⟨w2.heap.size, 0, none⟩) 1 1 [.int .i64 (k : Int), .bool true, .int .u64 (st : Int), .int .u64 (d : Int)] rfl rfl (row_four5 w2 _ _ _ _ _) (by intro u hu; simp at hu; rcases hu with rfl | rfl | rfl | rfl <;> rfl) (by simp only [maxLen]; omega) (by omega) (by simpa using hs2) ?_
             intro v3 w3 hown3 hg3 hat3))
        clear c0' c1' c2' c3' d1'
        obtain ⟨A3, cp3, rfl, -, -, -⟩ := own_slice hown3
        have hf23 : Fr (Value.slice A1 all.length cp1).ownBlock.toList w2 w3 := ((Fr.refl _ w2).alloc _).trans (Fr.of_grown hg3)
        have hob : ∀ y ∈ (Value.slice A1 all.length cp1).ownBlock.toList, base ≤ y := fun y hy => (own_block HOWN2.out (by simpa using hy)).1
        have HAT3 := hide (HAT2.out.frGe hf23 HLOW.out hob)
        have HFX3 := hide (HFX2.out.trans (⟨_, fun y hy => .inr (hob y hy), hf23⟩ : FrX [P.gB, P.gC] base w2 w3))
        have HOWN3 := hide hown3
        have HCNT : Hid (rup s1.dn k d = rup s1.dn k d) := hide rfl
        clear hown3 hg3 hat3 hf23 hob HAT2 HOWN2 HFX2 hs2
        obtain ⟨c0', c1', c2', c3'⟩ := HAT3.out.cells
        have d0' : w3.cell? ⟨P.gB, k, none⟩ = some (.int .i64 (s1.cnt k : Int)) := HAT3.out.cntAt hk
        have f0' := HAT3.out.cnt.frozen k
        have HC1 := hide hc1'
        rw [HC1.out] at d0'
        have HAT4 := hide (HAT3.out.setCnt k 1)
        have hfr4 : Fr [P.gB] w3 (w3.setCell ⟨P.gB, k, none⟩ (.int .i64 ((1 : Nat) : Int))) := (Fr.refl _ _).set (.inl (by simp)) _
        have HOWN4 := hide (own_fr HOWN3.out hfr4 (own_above HOWN3.out HLOW.out.2.1))
        have HFX4 := hide (HFX3.out.trans ⟨[P.gB], fun y hy => .inl (by simp at hy; simp [hy]), hfr4⟩)
        clear hfr4 hc1'
        go_wp2
        go_ret
        refine ⟨_, rfl, ?_, ?_, HFX4.out⟩
        · rw [HRE.out]
          have e : (addFin R k st s1 news).1 = { s1 with dn := rup s1.dn k d, cnt := rup s1.cnt k 1 } := by simp [addFin, incR, HC1.out, HDD.out]
          rw [e]
          exact HAT4.out
        · rw [HRE.out]
          show World.ownsRow _ _ _ _ _ (ops ++ (news ++ ([⟨k, true, st, (st + (R k).up) % W64⟩] : List ROp))).length (ropcs (ops ++ (news ++ ([⟨k, true, st, (st + (R k).up) % W64⟩] : List ROp))))
          rw [← HDD.out, ← List.append_assoc, ← HALL.out, ropcs_snoc, List.length_append]
          exact HOWN4.out
    · have HD2 := HD.out
      rw [if_neg hz] at HD2
      have HD3 := hide HD2
      have hb : ((s.cnt k : Int) == 0) = false := beq_eq_false_iff_ne.2 (by omega)
      have hwr : IntKind.i64.wrap ((s.cnt k : Int) + 1) = (s.cnt k : Int) + 1 := by simp [IntKind.wrap, IntKind.signed, IntKind.bits]; omega
      have f0 := HAT.out.cnt.frozen k
      have HAT2 := hide (HAT.out.setCnt k (s.cnt k + 1))
      have hfr : Fr [P.gB] w (w.setCell ⟨P.gB, k, none⟩ (.int .i64 ((s.cnt k + 1 : Nat) : Int))) := (Fr.refl _ _).set (.inl (by simp)) _
      have HO2 := hide (own_fr HOWN.out hfr (own_above HOWN.out HLOW.out.2.1))
      have HFX := hide (show FrX [P.gB, P.gC] base w (w.setCell ⟨P.gB, k, none⟩ (.int .i64 ((s.cnt k + 1 : Nat) : Int))) from (FrX.refl _ _ _).set (by simp) _)
      clear HD HD2 hz hfr
      go_enter Try.func105, Try.ntmps105
      go_wp2
      go_ret
      refine ⟨_, rfl, ?_, ?_, ?_⟩
      · rw [HD3.out]; exact HAT2.out
      · rw [HD3.out, List.append_nil]; exact HO2.out
      · exact HFX.out
end Go.Proofs.Ytdocdgghphhdpaa

