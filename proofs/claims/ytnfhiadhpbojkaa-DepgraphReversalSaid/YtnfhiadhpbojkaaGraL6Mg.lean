/- The law DepgraphOrderOrCycle, walked. -/
import Derived.Test.YtnfhiadhpbojkaaMgDepgraphReversal11
namespace Go.Proofs.Ytnfhiadhpbojkaa
open Go.RowKit

def LkRel (w : World) (l : List (Int × Int)) (c s : Int) (m : Nat) (i : Value) (wr : World) : Prop := ∃ k : Nat, k ≤ l.length ∧ i = .int .i64 k ∧ (c, s) ∉ l.take k ∧ w = wr ∧ m = l.length - k
set_option maxHeartbeats 1000000 in
theorem linked_any (A : Option Addr) (cp : Nat) (l : List (Int × Int)) (c s : Int) (w : World) (hr : Row w A (pcs l)) (hn : l.length ≤ 4096) :
    Calls Try.prog 22 #[.slice A l.length cp, .int .i64 c, .int .i64 s] w fun e w' => e = .returned (.bool (decide ((c, s) ∈ l))) ∧ w = w' := by
  have HR := hide hr
  clear hr
  go_enter Try.func22, Try.ntmps22
  go_wp2
  go_loopg [7] l.length (fun m i wr => LkRel w l c s m i wr)
  case atStart => exact ⟨0, by omega, rfl, by simp, rfl, rfl⟩
  case round =>
    obtain ⟨k, hk, rfl, hnp, rfl, hmm⟩ := hrel
    have HM := hide hmm
    have HNP := hide hnp
    clear hmm hnp
    by_cases hlt : k < l.length
    · obtain ⟨p, hp⟩ : ∃ p, l[k]? = some p := ⟨_, List.getElem?_eq_getElem hlt⟩
      obtain ⟨ob, oo, rfl, c1, c2⟩ := HR.out.link hp
      have hkl : (k : Int) < (l.length : Int) := by omega
      have HP := hide hp
      clear hp
      obtain ⟨x, y⟩ := p
      simp only at c1 c2
      by_cases e : x = c
      · subst e
        have eb : (x == x) = true := by simp
        by_cases e2 : y = s
        · subst e2
          have eb2 : (y == y) = true := by simp
          go_wp2
          go_ret
          exact ⟨ret_bool (decide_eq_true (List.mem_of_getElem? HP.out)).symm, rfl⟩
        · have eb2 : (y == s) = false := by simp [e2]
          go_wp2
          go_roundg (l.length - (k + 1))
          case measure => rw [HM.out]; omega
          case rel =>
            refine ⟨k + 1, by omega, by go_num, ?_, rfl, rfl⟩
            rw [take_succ_some HP.out]
            intro h
            rcases List.mem_append.1 h with h | h
            · exact HNP.out h
            · have := List.mem_singleton.1 h
              injection this with _ h2
              exact e2 h2.symm
      · have eb : (x == c) = false := by simp [e]
        go_wp2
        go_roundg (l.length - (k + 1))
        case measure => rw [HM.out]; omega
        case rel =>
          refine ⟨k + 1, by omega, by go_num, ?_, rfl, rfl⟩
          rw [take_succ_some HP.out]
          intro h
          rcases List.mem_append.1 h with h | h
          · exact HNP.out h
          · have := List.mem_singleton.1 h
            injection this with h1 _
            exact e h1.symm
    · have hkl : ¬ (k : Int) < (l.length : Int) := by omega
      go_wp2
      go_ret
      refine ⟨ret_bool (decide_eq_false ?_).symm, rfl⟩
      have := HNP.out
      rwa [List.take_of_length_le (by omega)] at this

/-- What the law asks of a cycle. -/
def CycOk (L : List (Nat × Nat)) (c : List Nat) : Prop := 0 < c.length ∧ c.Nodup ∧ ∀ i u, c[i]? = some u → ∃ v, c[(i + 1) % c.length]? = some v ∧ (u, v) ∈ L
/-- Either there is an order and no cycle, or there is a cycle and no order. -/
theorem order_or_cycle {N : Nat} {L : List (Nat × Nat)} (hN : N ≤ 128) {l : List (Int × Int)} (hl : toNs l = L) (hb : basicM (N : Int) l = 0) (hL : ∀ p ∈ L, p.1 < N ∧ p.2 < N) :
    ((orderM (N : Int) l).2 = 0 ∧ cycleM (N : Int) l = ([], 6)) ∨ ((orderM (N : Int) l).2 = 18 ∧ (cycleM (N : Int) l).2 = 0 ∧ CycOk L (cycleM (N : Int) l).1) := by
  subst hl
  cases h : firstLeft N (greedy N (toNs l)) with
  | none => exact .inl ⟨by rw [orderM_ok hb (left_full.1 h)], cycleM_none hb h⟩
  | some v =>
    have hnf : ¬ (greedy N (toNs l)).length = N := fun h' => by rw [left_full.2 h'] at h; cases h
    refine .inr ⟨by rw [orderM_cyc hb hnf], by rw [cycleM_some hb h], ?_⟩
    rw [cycleM_some hb h]
    obtain ⟨h1, h2, h3, h4⟩ := cycle_cyc hN hL h
    exact ⟨h1, h2, fun i u hi => ⟨_, h4 i u hi, by
      have hu := h3 u (List.mem_of_getElem? hi)
      exact (nx_next hN hL hu.1 hu.2).2.1.1⟩⟩
def OcRel1 (w1 : World) (n : Nat) (m : Nat) (i : Value) (wr : World) : Prop := ∃ k : Nat, k ≤ n ∧ i = .int .i64 k ∧ Fr [] w1 wr ∧ m = n - k
theorem quiet_id2 {P : Program} {f : FuncId} {args : Array Value} {w : World} {n : Nat} {v : Value} (h : Calls P f args (w.drewN n) fun e w' => e = .returned v ∧ w.drewN n = w') :
    Calls P f args (w.drewN n) fun e w'' => e = .returned v ∧ ∃ m, w'' = w.drewN m := h.mono fun _ _ ⟨he, hw⟩ => ⟨he, n, hw.symm⟩

set_option maxHeartbeats 4000000 in
set_option maxRecDepth 100000 in
theorem orderOrCycle_walk (n : Int) (A : Option Addr) (cp : Nat) (raw : List (Int × Int)) (w : World) (hr : Row w A (pcs raw)) (hm : raw.length ≤ maxLen) :
    Calls Try.prog 6 #[.int .i64 n, .slice A raw.length cp] w fun e w' => e = .returned (.bool true) ∧ Fr [] w w' := by
  unfold maxLen at hm
  have HR := hide hr
  clear hr
  by_cases h40 : 40 < raw.length
  · have hb : decide ((40 : Int) < (raw.length : Int)) = true := by simp; omega
    go_enter Try.func6, Try.ntmps6
    go_wp2_with fail
    refine (awake24_any w).mono ?_
    rintro e w1 ⟨rfl, hfr⟩
    go_wp2
    go_ret
    exact ⟨rfl, hfr⟩
  · have hb : decide ((40 : Int) < (raw.length : Int)) = false := by simp; omega
    have h40' : raw.length ≤ 40 := by omega
    clear h40 hm
    go_enter Try.func6, Try.ntmps6
    go_wp2_with fail
    refine (graph_any n A cp raw false w HR.out (by omega)).mono ?_
    rintro e w1 ⟨v1, rfl, hown1, hf1⟩
    obtain ⟨A1, c1, rfl, -, hrow1, -⟩ := own_slice hown1
    have hgok := graphM_ok n raw false
    have hN := gNodes_lt n
    have hoc := order_or_cycle (N := gNodes n) (by omega) (toNs_ofNs (graphM n raw false)) (hgok.links (by omega)).2.2 hgok.lt
    have hgl := hgok.len
    have hcl := cycleM_len (gNodes n : Int) (ofNs (graphM n raw false))
    clear hgok
    generalize graphM n raw false = L at hgl hoc hrow1 hcl ⊢
    generalize gNodes n = N at hoc hN hcl ⊢
    have hll : (ofNs L).length = L.length := ofNs_length L
    have HG := hide hrow1
    clear hrow1 hown1
    have hq1 := order_any24 (N : Int) A1 c1 (ofNs L) w1 HG.out (by omega)
    rw [hll] at hq1
    go_wp2_with fail
    refine hq1.mono ?_
    rintro e w2 ⟨v2, rfl, hown2, hf2⟩
    obtain ⟨A2, c2, rfl, -, -, -⟩ := own_slice hown2
    have hw2 := hf1.call hf2
    have HG2 := hide (HG.out.fr0 hf2)
    clear hown2 hq1 HG hf1 hf2
    have hq2 := cycle_any24 (N : Int) A1 c1 (ofNs L) w2 HG2.out (by omega)
    rw [hll] at hq2
    go_wp2_with fail
    refine hq2.mono ?_
    rintro e w3 ⟨v3, rfl, hown3, hf3⟩
    obtain ⟨A3, c3, rfl, -, hrow3, -⟩ := own_slice hown3
    have hw3 := hw2.call hf3
    have HG3 := hide (HG2.out.fr0 hf3)
    have H3 := hide hrow3
    clear hown3 hq2 HG2 hf3 hrow3
    generalize orderM (N : Int) (ofNs L) = oo at hoc ⊢
    generalize cycleM (N : Int) (ofNs L) = cc at hoc hcl H3 ⊢
    obtain ⟨C, ce⟩ := cc
    obtain ⟨o1, o2⟩ := oo
    simp only at hoc hcl H3 ⊢
    rcases hoc with ⟨rfl, hcc⟩ | ⟨rfl, rfl, hco⟩
    · injection hcc with h1 h2
      subst h1 h2
      go_wp2_with fail
      refine (awake24_any _).mono ?_
      rintro e w8 ⟨rfl, hf8⟩
      go_wp2
      go_ret
      exact ⟨rfl, hw3.call hf8⟩
    · obtain ⟨hc0, hcn, hcx⟩ := hco
      have HCN := hide hcn
      have HCX := hide hcx
      have hc0b : ((C.length : Int) == 0) = false := beq_eq_false_iff_ne.2 (by omega)
      clear hcn hcx
      go_wp2
      go_loopg [11] C.length (fun m i wr => OcRel1 w3 C.length m i wr)
      case atStart => exact ⟨0, by omega, rfl, Fr.refl _ _, rfl⟩
      case round =>
        obtain ⟨k, hk, rfl, hfr, hmm⟩ := hrel
        have HM := hide hmm
        clear hmm
        by_cases hlt : k < C.length
        · obtain ⟨u, hu⟩ : ∃ u, C[k]? = some u := ⟨_, List.getElem?_eq_getElem hlt⟩
          obtain ⟨v, hv, huv⟩ := HCX.out k u hu
          have hkl : (k : Int) < (C.length : Int) := by omega
          obtain ⟨ob, oo, e, d1⟩ := (H3.out.fr0 hfr).at_ (i := k) (u := nv u) (by simp [hu])
          subst e
          obtain ⟨_, _, e, d2⟩ := (H3.out.fr0 hfr).at_ (i := (k + 1) % C.length) (u := nv v) (by rw [List.getElem?_map, hv]; rfl)
          cases e
          have hmod : (k + 1) % C.length < C.length := Nat.mod_lt _ hc0
          have HU := hide hu
          have huv' : ((u : Int), (v : Int)) ∈ ofNs L := ofNs_mem.2 huv
          have hw1 : IntKind.i64.wrap ((k : Int) + 1) = (k : Int) + 1 := IntWalk.i64_in _ (by omega)
          have hm1 : ((k : Int) + 1).tmod (C.length : Int) = (((k + 1) % C.length : Nat) : Int) := by
            rw [show (k : Int) + 1 = ((k + 1 : Nat) : Int) by omega]
            exact (Int.ofNat_tmod (k + 1) C.length).symm
          have hm2 : ((k : Int) + 1) % (C.length : Int) = (((k + 1) % C.length : Nat) : Int) := by
            rw [show (k : Int) + 1 = ((k + 1 : Nat) : Int) by omega]
            exact (Int.natCast_emod (k + 1) C.length).symm
          have HLK := hide huv'
          clear hu hv huv huv'
          generalize hqq : (k + 1) % C.length = q at d2 hmod hm1 hm2
          have hqi : (q : Int) < (C.length : Int) := by omega
          clear hqq
          go_wp2
          go_quiet ((go_at_call 22; rw [← hll]; exact quiet_id2 (linked_any A1 c1 (ofNs L) (u : Int) (v : Int) _ ((HG3.out.fr0 hfr).fr0 ((Fr.refl [] _).drewN _)) (by omega))))
          rw [decide_eq_true HLK.out]
          have hfd := hfr.drewN nq
          clear d1 d2 hfr
          generalize wr.drewN nq = wd at hfd ⊢
          go_wp2
          go_loopg [12] k (fun m i wr => OcRel1 w3 k m i wr)
          case atStart => exact ⟨0, by omega, rfl, hfd, rfl⟩
          case round =>
            clear hfd
            obtain ⟨j, hj, rfl, hfi, hmm⟩ := hrel
            have HM2 := hide hmm
            clear hmm
            by_cases hlt2 : j < k
            · obtain ⟨z, hz⟩ : ∃ z, C[j]? = some z := ⟨_, List.getElem?_eq_getElem (by omega)⟩
              obtain ⟨_, _, e, d1⟩ := (H3.out.fr0 hfi).at_ (i := k) (u := nv u) (by rw [List.getElem?_map, HU.out]; rfl)
              cases e
              obtain ⟨_, _, e, d2⟩ := (H3.out.fr0 hfi).at_ (i := j) (u := nv z) (by rw [List.getElem?_map, hz]; rfl)
              cases e
              have hjl : (j : Int) < (C.length : Int) := by omega
              have hjk : (j : Int) < (k : Int) := by omega
              have hne : ((u : Int) == (z : Int)) = false := by
                rw [beq_eq_false_iff_ne]
                intro e
                have e' : u = z := by omega
                have h1 := HU.out
                rw [List.getElem?_eq_getElem hlt] at h1
                rw [List.getElem?_eq_getElem (show j < C.length by omega)] at hz
                injection h1 with h1
                injection hz with hz
                have h2 : C[k] = C[j] := by rw [h1, hz, e']
                have := (List.getElem_inj HCN.out).1 h2
                omega
              clear hz
              go_wp2
              go_quiet (fail)
              go_wp2
              go_roundg (k - (j + 1))
              case measure => rw [HM2.out]; omega
              case rel => exact ⟨j + 1, by omega, by go_num, hfi.drewN _, rfl⟩
            · have hjk : ¬ (j : Int) < (k : Int) := by omega
              go_wp2
              go_roundg (C.length - (k + 1))
              case measure => rw [HM.out]; omega
              case rel => exact ⟨k + 1, by omega, by go_num, hfi, rfl⟩
        · have hkl : ¬ (k : Int) < (C.length : Int) := by omega
          go_wp2_with fail
          refine (awake24_any _).mono ?_
          rintro e w8 ⟨rfl, hf8⟩
          go_wp2
          go_ret
          exact ⟨rfl, (hw3.call hfr).call hf8⟩
end Go.Proofs.Ytnfhiadhpbojkaa

