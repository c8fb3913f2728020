/- Walks: the reference's rails: later, add (by induction on the chain of supplies). -/
import Derived.Test.YtdocdgghphhdpaaMgDeviceTree18
import Derived.Test.YtdocdgghphhdpaaRlW1Mg
namespace Go.Proofs.Ytdocdgghphhdpaa
open Go.RowKit

set_option maxHeartbeats 1000000 in
theorem later25_any (a b m : Nat) (hm : m = max a b) (w : World) :
    Calls Try.prog 126 #[.int .u64 (a : Int), .int .u64 (b : Int)] w fun e w' => e = .returned (.int .u64 (m : Int)) ∧ w = w' := by
  have hmi : (m : Int) = if (a : Int) < (b : Int) then (b : Int) else (a : Int) := by rw [hm]; exact max_nat_int
  have HMI := hide hmi
  clear hm hmi
  by_cases h : b < a
  · have b1 : decide ((b : Int) < (a : Int)) = true := decide_eq_true (by omega)
    have b2 : decide (b < a) = true := decide_eq_true h
    have HE : Hid ((a : Int) = (m : Int)) := hide (by rw [HMI.out, if_neg (by omega)])
    clear h HMI
    go_enter Try.func126, Try.ntmps126
    go_wp2
    go_ret
    exact ⟨ret_int HE.out, rfl⟩
  · have b1 : decide ((b : Int) < (a : Int)) = false := decide_eq_false (by omega)
    have b2 : decide (b < a) = false := decide_eq_false h
    have HE : Hid ((b : Int) = (m : Int)) := hide (by
      rw [HMI.out]
      split
      · rfl
      · omega)
    clear h HMI
    go_enter Try.func126, Try.ntmps126
    go_wp2
    go_ret
    exact ⟨ret_int HE.out, rfl⟩
/-- To add a use first and to add the supplies' then is the same. -/
theorem incR_comm {i k : Nat} (s : RSt) (h : i ≠ k) : incR i (incR k s) = incR k (incR i s) := by
  unfold incR
  simp only
  rw [rup_other h, rup_other (fun e => h e.symm)]
  congr 1
  funext j
  unfold rup
  by_cases h1 : j = i
  · by_cases h2 : j = k
    · omega
    · simp [h1, h]
  · simp [h1]
theorem add_inc (R : Nat → RailD) (now : Nat) {i : Nat} : ∀ (k : Nat) (L : List Nat) (s : RSt), i ∉ k :: L → addC R now k L (incR i s) = (incR i (addC R now k L s).1, (addC R now k L s).2)
  | k, [], s, h => by
    have hk : k ≠ i := fun e => h (by simp [e])
    have hc : (incR i s).cnt k = s.cnt k := rup_other hk
    unfold addC
    rw [hc]
    split
    · unfold addFin
      have := incR_comm { s with dn := rup s.dn k ((max now (s.dn k) + (R k).up) % W64) } hk
      exact Prod.ext this rfl
    · exact Prod.ext (incR_comm s hk) rfl
  | k, q :: L, s, h => by
    have hk : k ≠ i := fun e => h (by simp [e])
    have hc : (incR i s).cnt k = s.cnt k := rup_other hk
    have ih := add_inc R now q L s (fun e => h (List.mem_cons_of_mem _ e))
    unfold addC
    rw [hc]
    split
    · rw [ih]
      generalize addC R now q L s = A
      unfold addFin
      have := incR_comm { A.1 with dn := rup A.1.dn k ((max (max now (s.dn k)) (A.1.dn q) + (R k).up) % W64) } hk
      exact Prod.ext this rfl
    · exact Prod.ext (incR_comm s hk) rfl
def AqRet (base : Nat) (w : World) (P : RP) (R : Nat → RailD) (ops : List ROp) (r : RSt × List ROp) (e : Ending) (w' : World) : Prop :=
  ∃ v, e = .returned v ∧ RqAt w' P R r.1 ∧ w'.ownsRow base 54 4 v (ops ++ r.2).length (ropcs (ops ++ r.2)) ∧ FrX [P.gB, P.gC] base w w'
def AqCut (base : Nat) (w : World) (P : RP) (R : Nat → RailD) (ops : List ROp) (k : Nat) (r : RSt × List ROp) (v1 v9 : Value) (wx : World) : Prop :=
  ∃ (st : Nat) (s1 : RSt) (news all : List ROp) (A1 : Option Addr) (cp1 : Nat), v9 = .int .u64 (st : Int) ∧ v1 = .slice A1 all.length cp1 ∧ RqAt wx P R (incR k s1) ∧ wx.ownsRow base 54 4 (.slice A1 all.length cp1) all.length (ropcs all) ∧ FrX [P.gB, P.gC] base w wx ∧ r = addFin R k st s1 news ∧ all.length ≤ 3000 ∧ all = ops ++ news
set_option maxHeartbeats 8000000 in
set_option maxRecDepth 100000 in
theorem rqadd_any {base : Nat} {P : RP} {R : Nat → RailD} {now k : Nat} {L : List Nat} (hc : Chn P.n R k L) : ∀ (s : RSt) (ops : List ROp) (v : Value) (w : World), RqAt w P R s → (∀ j, j < P.n → s.cnt j + L.length ≤ 100000) → RlLow P base → base ≤ w.heap.size → w.ownsRow base 54 4 v ops.length (ropcs ops) → ops.length + L.length ≤ 2000 →
    Calls Try.prog 114 #[.pointer (some ⟨P.b, 0, none⟩), v, .int .i64 (k : Int), .int .u64 (now : Int)] w (AqRet base w P R ops (addC R now k L s)) := by
  obtain ⟨i0, hi0, hz0, hz1, hz2⟩ := info_parts rop_info
  have HI := hide (And.intro hi0 (And.intro hz0 (And.intro hz1 hz2)))
  clear hi0 hz0 hz1 hz2
  induction hc with
  | @root k hk hs =>
    intro s ops v w hat hcn hlow hbase hown hlen
    obtain ⟨A0, cp0, rfl, -, -, -⟩ := own_slice hown
    have HCN := hide hcn
    have HLOW := hide hlow
    have HSUP := hide hs
    obtain ⟨c0, c1, c2, c3⟩ := hat.cells
    have d0 := hat.cntAt hk
    have f0 := hat.cnt.frozen k
    have hki : (k : Int) < (P.n : Int) := by omega
    have hn64 := hat.n64
    have hck := hcn k hk
    obtain ⟨c, hcc⟩ : ∃ c, c = s.cnt k + 1 := ⟨_, rfl⟩
    have hci : (s.cnt k : Int) + 1 = (c : Int) := by omega
    have hcw : IntKind.i64.wrap (c : Int) = (c : Int) := by simp [IntKind.wrap, IntKind.signed, IntKind.bits]; omega
    have HAT1 := hide (show RqAt (w.setCell ⟨P.gB, k, none⟩ (.int .i64 (c : Int))) P R (incR k s) from by rw [hcc]; exact hat.setCnt k (s.cnt k + 1))
    have hfr1 : Fr [P.gB] w (w.setCell ⟨P.gB, k, none⟩ (.int .i64 (c : Int))) := (Fr.refl _ _).set (.inl (by simp)) _
    have HO1 := hide (own_fr hown hfr1 (own_above hown hlow.2.1))
    have HFX1 := hide (show FrX [P.gB, P.gC] base w (w.setCell ⟨P.gB, k, none⟩ (.int .i64 (c : Int))) from (FrX.refl _ _ _).set (by simp) _)
    have HCC := hide hcc
    have HD := hide (show addC R now k [] s = if s.cnt k = 0 then addFin R k (max now (s.dn k)) s [] else (incR k s, []) from by rw [addC])
    clear hat hcn hlow hown hs hfr1 hcc
    go_enter Try.func114, Try.ntmps114
    go_upto_region 2 with (fail)
    clear c0 c1 c2 c3 d0 f0 hci hcw
    generalize w.setCell ⟨P.gB, k, none⟩ (.int .i64 (c : Int)) = w1 at HAT1 HO1 HFX1 ⊢
    obtain ⟨c0, c1, c2, c3⟩ := HAT1.out.cells
    have d0 : w1.cell? ⟨P.gB, k, none⟩ = some (.int .i64 (c : Int)) := by
      have h := HAT1.out.cntAt hk
      simp only [incR, rup_same] at h
      rw [HCC.out]; exact h
    have d1 : w1.cell? ⟨P.gC, k, none⟩ = some (.int .u64 (s.dn k : Int)) := HAT1.out.dnAt hk
    by_cases hz : s.cnt k = 0
    · have HD2 := HD.out
      rw [if_pos hz] at HD2
      have HD3 := hide HD2
      have hb : decide ((1 : Int) < (c : Int)) = false := decide_eq_false (by have := HCC.out; omega)
      have hbn : decide (1 < c) = false := decide_eq_false (by have := HCC.out; omega)
      have hb0 : ¬ (1 : Int) < (c : Int) := by have := HCC.out; omega
      have HZ := hide hz
      obtain ⟨m0, hm0⟩ : ∃ m0, m0 = max now (s.dn k) := ⟨_, rfl⟩
      rw [← hm0] at HD3
      have HM0 := hide hm0
      obtain ⟨ob, oo, hA, r0, -, -⟩ := HAT1.out.rail hk
      have HA := hide hA
      rw [hA] at c0
      have hneg : ¬ (0 : Int) ≤ (R k).sup := by have := HSUP.out; omega
      clear HD HD2 hz hm0 hA
      go_wp2_with fail
      refine (later25_any now (s.dn k) m0 HM0.out w1).mono ?_
      rintro e w2 ⟨rfl, rfl⟩
      clear hb hbn hb0 d0 d1
      go_upto_if 47 with (fail)
      go_cut [1, 9] (fun v1 v9 wx => AqCut base w P R ops k (addC R now k [] s) v1 v9 wx)
      case first =>
        go_wp2
        go_meet
        exact ⟨m0, s, [], ops, A0, cp0, rfl, rfl, HAT1.out, HO1.out, HFX1.out, HD3.out, by simp at hlen ⊢; omega, by rw [List.append_nil]⟩
      case rest =>
        obtain ⟨st, s1, news, all, A1, cp1, rfl, rfl, hat1, hown1, hfx1, hre1, hnl, hall⟩ := hcut
        have HALL := hide hall
        have HAT2 := hide hat1
        have HOWN1 := hide hown1
        have HFX2 := hide hfx1
        have HRE := hide hre1
        clear hat1 hown1 hfx1 hre1 hall c0 c1 c2 c3 r0
        obtain ⟨c0', c1', c2', c3'⟩ := HAT2.out.cells
        rw [HA.out] at c0'
        have d1' := HAT2.out.dnAt hk
        obtain ⟨ob', oo', hA', -, r1', -⟩ := HAT2.out.rail hk
        rw [HA.out] at hA'
        injection hA' with hA'
        injection hA' with e1 e2
        subst e1 e2
        have f1 := HAT2.out.dn.frozen k
        obtain ⟨d, hd⟩ : ∃ d, d = (st + (R k).up) % W64 := ⟨_, rfl⟩
        have hwr : IntKind.u64.wrap ((st : Int) + ((R k).up : Int)) = (d : Int) := by rw [IntKind.wrap_u64, hd]; unfold W64; omega
        have HDD := hide hd
        have HAT3 := hide ((HAT2.out.setDn k d).fr0 (Fr.refl [] _).drew)
        have hfr2 : Fr [P.gC] wc ((wc.setCell ⟨P.gC, k, none⟩ (.int .u64 (d : Int))).drew) := ((Fr.refl _ _).set (.inl (by simp)) _).drew
        have HOWN2 := hide (own_fr HOWN1.out hfr2 (own_above HOWN1.out HLOW.out.2.2.1))
        have HFX3 := hide (HFX2.out.trans ⟨[P.gC], fun y hy => .inl (by simp at hy; simp [hy]), hfr2⟩)
        generalize (R k).up = u at r1' hwr
        clear hd hfr2
        go_upto_region 9 with (fail)
        go_still_tail 16, (by kernel_rfl)
        repeat still_step
        go_upto_region 10 with (fail)
        clear c0' c1' c2' c3' d1' f1 r1'
        generalize (wc.setCell ⟨P.gC, k, none⟩ (.int .u64 (d : Int))).drew = w3 at HAT3 HOWN2 HFX3 ⊢
        obtain ⟨c0', c1', c2', c3'⟩ := HAT3.out.cells
        have d1' := HAT3.out.dnAt hk
        simp only [rup_same] at d1'
        have hs2 : base ≤ w3.heap.size + 1 := by have := HFX3.out.size; omega
        go_wp2_with (first
          | (at_builtin
             refine wpList_append_row _ rfl (.tmp 78) (.tmp 89) _ rfl base 54 i0 (.agg #[.int .i64 0, .bool false, .int .u64 0, .int .u64 0]) 4 32 Try.underlying39 HI.out.1 HI.out.2.1 HI.out.2.2.1 HI.out.2.2.2 rfl (by omega) (.slice A1 all.length cp1) all.length (ropcs all) rfl
               (own_fr HOWN2.out ((Fr.refl [] _).alloc _) (fun _ _ => by simp)) (some ⟨w3.heap.size, 0, none⟩) 1 1 [.int .i64 (k : Int), .bool true, .int .u64 (st : Int), .int .u64 (d : Int)] rfl rfl (row_four5 w3 _ _ _ _ _) (by intro u hu; simp at hu; rcases hu with rfl | rfl | rfl | rfl <;> rfl) (by simp only [maxLen]; omega) (by omega) (by simpa using hs2) ?_
             intro v4 w4 hown4 hg4 hat4))
        obtain ⟨A3, cp3, rfl, -, -, -⟩ := own_slice hown4
        have hf34 : Fr (Value.slice A1 all.length cp1).ownBlock.toList w3 w4 := ((Fr.refl _ w3).alloc _).trans (Fr.of_grown hg4)
        have hob : ∀ y ∈ (Value.slice A1 all.length cp1).ownBlock.toList, base ≤ y := fun y hy => (own_block HOWN2.out (by simpa using hy)).1
        have HAT4 := hide (HAT3.out.frGe hf34 HLOW.out hob)
        have HFX4 := hide (HFX3.out.trans (⟨_, fun y hy => .inr (hob y hy), hf34⟩ : FrX [P.gB, P.gC] base w3 w4))
        have HOWN4 := hide hown4
        clear hown4 hg4 hat4 hf34 hob HAT3 HOWN2 HFX3 hs2 c0' c1' c2' c3' d1'
        go_wp2
        go_ret
        refine ⟨_, rfl, ?_, ?_, HFX4.out⟩
        · rw [HRE.out]
          have e : (addFin R k st s1 news).1 = { incR k s1 with dn := rup (incR k s1).dn k d } := by rw [HDD.out]; rfl
          rw [e]
          exact HAT4.out
        · rw [HRE.out]
          show World.ownsRow _ _ _ _ _ (ops ++ (news ++ ([⟨k, true, st, (st + (R k).up) % W64⟩] : List ROp))).length (ropcs (ops ++ (news ++ ([⟨k, true, st, (st + (R k).up) % W64⟩] : List ROp))))
          rw [← HDD.out, ← List.append_assoc, ← HALL.out, ropcs_snoc, List.length_append]
          exact HOWN4.out
    · have HD2 := HD.out
      rw [if_neg hz] at HD2
      have HD3 := hide HD2
      have hb : decide ((1 : Int) < (c : Int)) = true := decide_eq_true (by have := HCC.out; omega)
      have hbn : decide (1 < c) = true := decide_eq_true (by have := HCC.out; omega)
      have hb0 : (1 : Int) < (c : Int) := by have := HCC.out; omega
      clear HD HD2 hz
      go_wp2
      go_ret
      refine ⟨_, rfl, ?_, ?_, HFX1.out⟩
      · rw [HD3.out]; exact HAT1.out
      · rw [HD3.out, List.append_nil]; exact HO1.out
  | @next k q L hk hs hc hn ih =>
    intro s ops v w hat hcn hlow hbase hown hlen
    obtain ⟨A0, cp0, rfl, -, -, -⟩ := own_slice hown
    have HCN := hide hcn
    have HLOW := hide hlow
    have HSUP := hide hs
    obtain ⟨c0, c1, c2, c3⟩ := hat.cells
    have d0 := hat.cntAt hk
    have f0 := hat.cnt.frozen k
    have hki : (k : Int) < (P.n : Int) := by omega
    have hn64 := hat.n64
    have hck := hcn k hk
    obtain ⟨c, hcc⟩ : ∃ c, c = s.cnt k + 1 := ⟨_, rfl⟩
    have hci : (s.cnt k : Int) + 1 = (c : Int) := by omega
    have hcw : IntKind.i64.wrap (c : Int) = (c : Int) := by simp [IntKind.wrap, IntKind.signed, IntKind.bits]; omega
    have HAT1 := hide (show RqAt (w.setCell ⟨P.gB, k, none⟩ (.int .i64 (c : Int))) P R (incR k s) from by rw [hcc]; exact hat.setCnt k (s.cnt k + 1))
    have hfr1 : Fr [P.gB] w (w.setCell ⟨P.gB, k, none⟩ (.int .i64 (c : Int))) := (Fr.refl _ _).set (.inl (by simp)) _
    have HO1 := hide (own_fr hown hfr1 (own_above hown hlow.2.1))
    have HFX1 := hide (show FrX [P.gB, P.gC] base w (w.setCell ⟨P.gB, k, none⟩ (.int .i64 (c : Int))) from (FrX.refl _ _ _).set (by simp) _)
    have HCC := hide hcc
    have hkl := hc.lt
    have HIH := hide ih
    have HN := hide hn
    have HD := hide (show addC R now k (q :: L) s = if s.cnt k = 0 then addFin R k (max (max now (s.dn k)) ((addC R now q L s).1.dn q)) (addC R now q L s).1 (addC R now q L s).2 else (incR k s, []) from by rw [addC])
    clear ih hn hat hcn hlow hown hs hfr1 hcc
    go_enter Try.func114, Try.ntmps114
    go_upto_region 2 with (fail)
    clear c0 c1 c2 c3 d0 f0 hci hcw
    generalize w.setCell ⟨P.gB, k, none⟩ (.int .i64 (c : Int)) = w1 at HAT1 HO1 HFX1 ⊢
    obtain ⟨c0, c1, c2, c3⟩ := HAT1.out.cells
    have d0 : w1.cell? ⟨P.gB, k, none⟩ = some (.int .i64 (c : Int)) := by
      have h := HAT1.out.cntAt hk
      simp only [incR, rup_same] at h
      rw [HCC.out]; exact h
    have d1 : w1.cell? ⟨P.gC, k, none⟩ = some (.int .u64 (s.dn k : Int)) := HAT1.out.dnAt hk
    by_cases hz : s.cnt k = 0
    · have HD2 := HD.out
      rw [if_pos hz] at HD2
      have HD3 := hide HD2
      have hb : decide ((1 : Int) < (c : Int)) = false := decide_eq_false (by have := HCC.out; omega)
      have hbn : decide (1 < c) = false := decide_eq_false (by have := HCC.out; omega)
      have hb0 : ¬ (1 : Int) < (c : Int) := by have := HCC.out; omega
      have HZ := hide hz
      obtain ⟨m0, hm0⟩ : ∃ m0, m0 = max now (s.dn k) := ⟨_, rfl⟩
      rw [← hm0] at HD3
      have HM0 := hide hm0
      obtain ⟨ob, oo, hA, r0, -, -⟩ := HAT1.out.rail hk
      have HA := hide hA
      rw [hA] at c0
      rw [HSUP.out] at r0
      have hq0 : (0 : Int) ≤ (q : Int) := by omega
      clear HD HD2 hz hm0 hA
      go_wp2_with fail
      refine (later25_any now (s.dn k) m0 HM0.out w1).mono ?_
      rintro e w2 ⟨rfl, rfl⟩
      clear hb hbn hb0 d0 d1
      go_upto_if 47 with (fail)
      go_cut [1, 9] (fun v1 v9 wx => AqCut base w P R ops k (addC R now k (q :: L) s) v1 v9 wx)
      case first =>
        have hcn1 : ∀ j, j < P.n → (incR k s).cnt j + L.length ≤ 100000 := fun j hj => by
          have := HCN.out j hj
          show rup s.cnt k (s.cnt k + 1) j + _ ≤ _
          rw [List.length_cons] at this
          by_cases e : j = k
          · subst e; rw [rup_same]; omega
          · rw [rup_other e]; omega
        have HCN1 := hide hcn1
        have hb1 : base ≤ w1.heap.size := by have := HFX1.out.size; omega
        clear hcn1
        go_wp2_with fail
        have hl1 := add_len R now q L s
        refine (HIH.out (incR k s) ops _ w1 HAT1.out HCN1.out HLOW.out hb1 HO1.out (by simp at hlen; omega)).mono ?_
        rintro e w2 ⟨v2, rfl, hat2, hown2, hfx2⟩
        rw [add_inc R now q L s HN.out] at hat2 hown2
        generalize addC R now q L s = r1 at HD3 hat2 hown2 hl1
        obtain ⟨s1, news⟩ := r1
        simp only at HD3 hat2 hown2 hl1
        obtain ⟨all, hall⟩ : ∃ all, all = ops ++ news := ⟨_, rfl⟩
        rw [← hall] at hown2
        have HALL := hide hall
        have hal : all.length ≤ 3000 := by rw [hall]; simp at hlen ⊢; omega
        obtain ⟨A1, cp1, rfl, -, -, -⟩ := own_slice hown2
        clear hall
        have HAT2 := hide hat2
        have HOWN2 := hide hown2
        obtain ⟨g0, g1, g2, g3⟩ := hat2.cells
        have g4 : w2.cell? ⟨P.gC, q, none⟩ = some (.int .u64 (s1.dn q : Int)) := hat2.dnAt hkl
        obtain ⟨m1, hm1⟩ : ∃ m1, m1 = max m0 (s1.dn q) := ⟨_, rfl⟩
        rw [← hm1] at HD3
        have HM1 := hide hm1
        have hqi : (q : Int) < (P.n : Int) := by omega
        have HFIN : Hid (AqCut base w P R ops k (addC R now k (q :: L) s) (.slice A1 all.length cp1) (.int .u64 (m1 : Int)) w2) := hide ⟨m1, s1, news, all, A1, cp1, rfl, rfl, HAT2.out, HOWN2.out, HFX1.out.trans hfx2, HD3.out, hal, HALL.out⟩
        clear hm1 hat2 hown2 hfx2 c0 c1 c2 c3 r0
        go_wp2_with fail
        refine (later25_any m0 (s1.dn q) m1 HM1.out w2).mono ?_
        rintro e w3 ⟨rfl, rfl⟩
        go_wp2
        go_meet
        exact HFIN.out
      case rest =>
        obtain ⟨st, s1, news, all, A1, cp1, rfl, rfl, hat1, hown1, hfx1, hre1, hnl, hall⟩ := hcut
        have HALL := hide hall
        have HAT2 := hide hat1
        have HOWN1 := hide hown1
        have HFX2 := hide hfx1
        have HRE := hide hre1
        clear hat1 hown1 hfx1 hre1 hall c0 c1 c2 c3 r0
        obtain ⟨c0', c1', c2', c3'⟩ := HAT2.out.cells
        rw [HA.out] at c0'
        have d1' := HAT2.out.dnAt hk
        obtain ⟨ob', oo', hA', -, r1', -⟩ := HAT2.out.rail hk
        rw [HA.out] at hA'
        injection hA' with hA'
        injection hA' with e1 e2
        subst e1 e2
        have f1 := HAT2.out.dn.frozen k
        obtain ⟨d, hd⟩ : ∃ d, d = (st + (R k).up) % W64 := ⟨_, rfl⟩
        have hwr : IntKind.u64.wrap ((st : Int) + ((R k).up : Int)) = (d : Int) := by rw [IntKind.wrap_u64, hd]; unfold W64; omega
        have HDD := hide hd
        have HAT3 := hide ((HAT2.out.setDn k d).fr0 (Fr.refl [] _).drew)
        have hfr2 : Fr [P.gC] wc ((wc.setCell ⟨P.gC, k, none⟩ (.int .u64 (d : Int))).drew) := ((Fr.refl _ _).set (.inl (by simp)) _).drew
        have HOWN2 := hide (own_fr HOWN1.out hfr2 (own_above HOWN1.out HLOW.out.2.2.1))
        have HFX3 := hide (HFX2.out.trans ⟨[P.gC], fun y hy => .inl (by simp at hy; simp [hy]), hfr2⟩)
        generalize (R k).up = u at r1' hwr
        clear hd hfr2
        go_upto_region 9 with (fail)
        go_still_tail 16, (by kernel_rfl)
        repeat still_step
        go_upto_region 10 with (fail)
        clear c0' c1' c2' c3' d1' f1 r1'
        generalize (wc.setCell ⟨P.gC, k, none⟩ (.int .u64 (d : Int))).drew = w3 at HAT3 HOWN2 HFX3 ⊢
        obtain ⟨c0', c1', c2', c3'⟩ := HAT3.out.cells
        have d1' := HAT3.out.dnAt hk
        simp only [rup_same] at d1'
        have hs2 : base ≤ w3.heap.size + 1 := by have := HFX3.out.size; omega
        go_wp2_with (first
          | (at_builtin
             refine wpList_append_row _ rfl (.tmp 78) (.tmp 89) _ rfl base 54 i0 (.agg #[.int .i64 0, .bool false, .int .u64 0, .int .u64 0]) 4 32 Try.underlying39 HI.out.1 HI.out.2.1 HI.out.2.2.1 HI.out.2.2.2 rfl (by omega) (.slice A1 all.length cp1) all.length (ropcs all) rfl
               (own_fr HOWN2.out ((Fr.refl [] _).alloc _) (fun _ _ => by simp)) (some ⟨w3.heap.size, 0, none⟩) 1 1 [.int .i64 (k : Int), .bool true, .int .u64 (st : Int), .int .u64 (d : Int)] rfl rfl (row_four5 w3 _ _ _ _ _) (by intro u hu; simp at hu; rcases hu with rfl | rfl | rfl | rfl <;> rfl) (by simp only [maxLen]; omega) (by omega) (by simpa using hs2) ?_
             intro v4 w4 hown4 hg4 hat4))
        obtain ⟨A3, cp3, rfl, -, -, -⟩ := own_slice hown4
        have hf34 : Fr (Value.slice A1 all.length cp1).ownBlock.toList w3 w4 := ((Fr.refl _ w3).alloc _).trans (Fr.of_grown hg4)
        have hob : ∀ y ∈ (Value.slice A1 all.length cp1).ownBlock.toList, base ≤ y := fun y hy => (own_block HOWN2.out (by simpa using hy)).1
        have HAT4 := hide (HAT3.out.frGe hf34 HLOW.out hob)
        have HFX4 := hide (HFX3.out.trans (⟨_, fun y hy => .inr (hob y hy), hf34⟩ : FrX [P.gB, P.gC] base w3 w4))
        have HOWN4 := hide hown4
        clear hown4 hg4 hat4 hf34 hob HAT3 HOWN2 HFX3 hs2 c0' c1' c2' c3' d1'
        go_wp2
        go_ret
        refine ⟨_, rfl, ?_, ?_, HFX4.out⟩
        · rw [HRE.out]
          have e : (addFin R k st s1 news).1 = { incR k s1 with dn := rup (incR k s1).dn k d } := by rw [HDD.out]; rfl
          rw [e]
          exact HAT4.out
        · rw [HRE.out]
          show World.ownsRow _ _ _ _ _ (ops ++ (news ++ ([⟨k, true, st, (st + (R k).up) % W64⟩] : List ROp))).length (ropcs (ops ++ (news ++ ([⟨k, true, st, (st + (R k).up) % W64⟩] : List ROp))))
          rw [← HDD.out, ← List.append_assoc, ← HALL.out, ropcs_snoc, List.length_append]
          exact HOWN4.out
    · have HD2 := HD.out
      rw [if_neg hz] at HD2
      have HD3 := hide HD2
      have hb : decide ((1 : Int) < (c : Int)) = true := decide_eq_true (by have := HCC.out; omega)
      have hbn : decide (1 < c) = true := decide_eq_true (by have := HCC.out; omega)
      have hb0 : (1 : Int) < (c : Int) := by have := HCC.out; omega
      clear HD HD2 hz
      go_wp2
      go_ret
      refine ⟨_, rfl, ?_, ?_, HFX1.out⟩
      · rw [HD3.out]; exact HAT1.out
      · rw [HD3.out, List.append_nil]; exact HO1.out
end Go.Proofs.Ytdocdgghphhdpaa

