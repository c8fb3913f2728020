/- The law RuntimepmClosure, walked. -/
import Derived.Test.YtbnfdpemfmeldaaRpmL0
import Derived.Test.YtbnfdpemfmeldaaRpmP6
import Derived.Test.YtbnfdpemfmeldaaGraW11
namespace Go.Proofs.Ytbnfdpemfmeldaa
open Go.RowKit

theorem own_set {w : World} {base : Nat} {e : TypeId} {size n c g : Nat} {xs : List Value} (h : w.ownsRow base e size (.slice (some ⟨g, 0, none⟩) n c) n xs) {i : Nat} (_hi : i < xs.length) (u : Value) : (w.setCell ⟨g, i, none⟩ u).ownsRow base e size (.slice (some ⟨g, 0, none⟩) n c) n (xs.set i u) := by
  refine ⟨by rw [List.length_set]; exact h.1, ?_⟩
  rcases h.2 with ⟨h0, h1⟩ | ⟨g', cap, cur, hv, hb, hh, hn, hc, hs, hx⟩
  · cases h0
  · injection hv with e1 e2 e3
    injection e1 with e1
    injection e1 with e1
    subst e1
    refine .inr ⟨g, cap, cur.setIfInBounds i u, by rw [e3], hb, Blk.set_ (w := w) (g := g) (t := e) (cs := cur) hh i u, hn, hc, by simpa using hs, ?_⟩
    rw [← hx, Array.toList_setIfInBounds, List.take_set]
theorem own_at {w : World} {base : Nat} {e : TypeId} {size n c : Nat} {A : Option Addr} {xs : List Value} (h : w.ownsRow base e size (.slice A n c) n xs) (hn : 0 < n) :
    ∃ g, A = some ⟨g, 0, none⟩ ∧ base ≤ g ∧ g < w.heap.size ∧ (∀ (i : Nat) (u : Value), xs[i]? = some u → w.cell? ⟨g, i, none⟩ = some u) ∧ (∀ i, w.frozen? ⟨g, i, none⟩ = false) := by
  rcases h.2 with ⟨h0, h1⟩ | ⟨g, cap, cur, hv, hb, hh, hcn, hc, hs, hx⟩
  · omega
  · injection hv with e1 e2 e3
    subst e1
    refine ⟨g, rfl, hb, lt_of_block hh, fun i u hu => ?_, fun i => Blk.frozen (w := w) (g := g) (t := e) (cs := cur) hh i⟩
    rw [Blk.cell (w := w) (g := g) (t := e) (cs := cur) hh i]
    rw [← hx, List.getElem?_take] at hu
    split at hu
    · simpa using hu
    · cases hu
theorem own_keep {w w' : World} {b1 b2 : Nat} {e1 e2 : TypeId} {s1 s2 n1 n2 : Nat} {v1 v2 : Value} {xs1 xs2 : List Value} (h : w.ownsRow b1 e1 s1 v1 n1 xs1) (h2 : w.ownsRow b2 e2 s2 v2 n2 xs2) (hne : e1 ≠ e2) (k : Fr v2.ownBlock.toList w w') : w'.ownsRow b1 e1 s1 v1 n1 xs1 := own_fr h k (fun y hy hm => by
  obtain ⟨_, _, c1, hb1⟩ := own_block h hy
  obtain ⟨_, _, c2, hb2⟩ := own_block h2 (show v2.ownBlock = some y by simpa using hm)
  exact Blk.ne_ hb1 hb2 hne rfl)
theorem idcs_dl (u : Nat) : ∀ {l : List ID} {k : Nat} {d : ID}, l[k]? = some d → (idcs l).set (k * 3 + 2) (.int .u64 (u : Int)) = idcs (l.set k { d with dl := u })
  | [], k, d, h => by cases h
  | a :: l, 0, d, h => by
    injection h with h
    subst h
    rfl
  | a :: l, k + 1, d, h => by
    have ih := idcs_dl u (l := l) (k := k) (d := d) (by simpa using h)
    show (idc a ++ idcs l).set ((k + 1) * 3 + 2) _ = idc a ++ idcs (l.set k _)
    rw [← ih, List.set_append_right _ _ (by rw [idc_len]; omega), idc_len]
    congr 2
    omega
def ClA (w w2 : World) (A : Option Addr) (c : Nat) (out : List ID) (m : Nat) (v i : Value) (wr : World) : Prop :=
  ∃ k : Nat, k ≤ out.length ∧ i = .int .i64 (k : Int) ∧ wr.ownsRow w.heap.size 30 3 (.slice A out.length c) out.length (idcs (zTo out k)) ∧ (∀ x ∈ out, OwnSup wr w.heap.size x) ∧ wr.ownsRow w2.heap.size 67 2 v (idLinks 0 (out.take k)).length (pcs (idLinks 0 (out.take k))) ∧ Fr [] w wr ∧ w2.heap.size ≤ wr.heap.size ∧ m = out.length - k
def ClC (w w2 : World) (A : Option Addr) (c : Nat) (out : List ID) (k : Nat) (x : ID) (s6 : Value) (wr : World) : Prop :=
  ∃ L, L = idLinks 0 (out.take k) ++ (if 0 ≤ x.par then [((k : Int), x.par)] else []) ∧ wr.ownsRow w.heap.size 30 3 (.slice A out.length c) out.length (idcs (zTo out (k + 1))) ∧ (∀ x ∈ out, OwnSup wr w.heap.size x) ∧ wr.ownsRow w2.heap.size 67 2 s6 L.length (pcs L) ∧ (∃ A7 c7, s6 = .slice A7 L.length c7) ∧ Fr [] w wr ∧ w2.heap.size ≤ wr.heap.size
def ClB (w w2 : World) (A : Option Addr) (c : Nat) (out : List ID) (k : Nat) (sup : List Int) (L : List (Int × Int)) (m : Nat) (v i : Value) (wr : World) : Prop :=
  ∃ j : Nat, j ≤ sup.length ∧ i = .int .i64 (j : Int) ∧ wr.ownsRow w.heap.size 30 3 (.slice A out.length c) out.length (idcs (zTo out (k + 1))) ∧ (∀ x ∈ out, OwnSup wr w.heap.size x) ∧ wr.ownsRow w2.heap.size 67 2 v (L ++ (sup.take j).map fun s => ((k : Int), s)).length (pcs (L ++ (sup.take j).map fun s => ((k : Int), s))) ∧ Fr [] w wr ∧ w2.heap.size ≤ wr.heap.size ∧ m = sup.length - j
def ClM (w3 : World) (P : ML) (out : List ID) (l : List CL) (m : Nat) (t i : Value) (wr : World) : Prop :=
  ∃ (k : Nat) (s : RS) (now : Nat), k ≤ l.length ∧ i = .int .i64 (k : Int) ∧ t = uv now ∧ MgIn wr P (newRM (out.map z0)) s ∧ St (newRM (out.map z0)) s now k ∧ now ≤ 1152921504606846976 ∧ (0 < (newRM (out.map z0)).n → now ≤ 15 * k) ∧ Fr [P.b, P.g] w3 wr ∧ m = l.length - k
def Cl4 (w7 : World) (n : Nat) (use : Nat → Nat) (m : Nat) (v i : Value) (wr : World) : Prop :=
  ∃ j : Nat, j ≤ n ∧ i = .int .i64 (j : Int) ∧ wr.ownsRow w7.heap.size 3 1 v (usedL j use).length ((usedL j use).map nv) ∧ Fr [] w7 wr ∧ m = n - j
def Cl5 (w9 : World) (n : Nat) (act : Nat → Bool) (m : Nat) (c i : Value) (wr : World) : Prop :=
  ∃ j : Nat, j ≤ n ∧ i = .int .i64 (j : Int) ∧ c = .int .i64 (((List.range j).filter act).length : Int) ∧ w9 = wr ∧ m = n - j
theorem usedL_step (use : Nat → Nat) (j : Nat) : usedL (j + 1) use = if 0 < use j then usedL j use ++ [j] else usedL j use := by
  unfold usedL
  rw [filter_range_succ]
  simp only [decide_eq_true_eq]
theorem act_at {n : Nat} {act : Nat → Bool} {j : Nat} (hj : j < n) : (act j = true → ((List.range n).filter act)[((List.range j).filter act).length]? = some j) ∧
    (∀ y, ((List.range n).filter act)[((List.range j).filter act).length]? = some y → y ≠ j ∨ act j = true) := by
  have h0 : (List.range n).filter act = (List.range j).filter act ++ ((List.range n).drop j).filter act := by
    rw [← List.filter_append, ← show (List.range n).take j = List.range j by rw [List.take_range, Nat.min_eq_left (by omega)], List.take_append_drop]
  rw [h0, List.getElem?_append_right (Nat.le_refl _), Nat.sub_self]
  constructor
  · intro h
    rw [List.drop_eq_getElem_cons (by simpa using hj), List.getElem_range, List.filter_cons_of_pos h]
    rfl
  · intro y hy
    have := (List.mem_filter.1 (List.mem_of_getElem? hy)).2
    by_cases e : y = j
    · subst e; exact .inr this
    · exact .inl e
set_option maxHeartbeats 8000000 in
set_option maxRecDepth 100000 in
theorem closure_walk (A B : Option Addr) (cp cq : Nat) (raw : List ID) (l : List CL) (w : World) (hr : Row w A (idcs raw)) (hw : ∀ x ∈ raw, IdWf w x) (hm : raw.length ≤ maxLen) (hl : Row w B (clcs l)) (hlm : l.length ≤ maxLen) (hlw : ∀ c ∈ l, c.wait ≤ 18446744073709551615) :
    Calls Try.prog 11 #[.slice A raw.length cp, .slice B l.length cq] w fun e w' => e = .returned (.bool true) ∧ Fr [] w w' := by
  have HR : Hid (IdsAt w A raw) := hide ⟨hr, fun x hx => (hw x hx).at_⟩
  have HL := hide hl
  have HLW := hide hlw
  clear hr hw hl hlw
  go_enter Try.func11, Try.ntmps11
  go_wp2_with fail
  refine (large28_any A B cp cq l.length raw w HR.out hm hlm).mono ?_
  rintro e w1 ⟨big, rfl, hlg, rfl⟩
  cases big with
  | true =>
    go_wp2_with fail
    refine (awake28_any w).mono ?_
    rintro e w7 ⟨rfl, hf7⟩
    go_wp2
    go_ret
    exact ⟨rfl, hf7⟩
  | false =>
  obtain ⟨hr20, hl40, hs20⟩ := hlg rfl
  have HS20 := hide hs20
  clear hlg hs20 hm hlm
  go_wp2_with fail
  refine (some28_any A cp raw w HR.out hr20 HS20.out).mono ?_
  rintro e w2 ⟨v2, out, rfl, hown, hsup, hdev, hf2⟩
  obtain ⟨A5, c5, rfl, -, -, -⟩ := own_slice hown
  have HOWN2 := hide hown
  have HSUP2 := hide hsup
  have HDEV := hide hdev
  have ho8 := hdev.len
  clear hown hsup hdev
  have HDZ := hide HDEV.out.z0_
  obtain ⟨i0, hi0, hz0, hz1, hz2⟩ := info_parts link_info
  have HI := hide (And.intro hi0 (And.intro hz0 (And.intro hz1 hz2)))
  clear hi0 hz0 hz1 hz2
  obtain ⟨i1, hi10, hz10, hz11, hz12⟩ := info_parts int_info1
  have HI1 := hide (And.intro hi10 (And.intro hz10 (And.intro hz11 hz12)))
  clear hi10 hz10 hz11 hz12
  have hf2z : w.heap.size ≤ w2.heap.size := hf2.size
  go_wp2
  go_loopg [6, 7] out.length (fun m v i wr => ClA w w2 A5 c5 out m v i wr)
  case atStart => exact ⟨0, by omega, rfl, HOWN2.out, HSUP2.out, own_nil _ _ _ _, hf2, Nat.le_refl _, rfl⟩
  case round =>
    obtain ⟨k, hk, rfl, hown, hsup, hlk, hfr, hz2, hmm⟩ := hrel
    have HM := hide hmm
    have HOWN := hide hown
    have HSUP := hide hsup
    obtain ⟨A7, c7, rfl, -, -, -⟩ := own_slice hlk
    have HLK := hide hlk
    clear hmm hown hsup hlk
    by_cases hlt : k < out.length
    · obtain ⟨x, hx⟩ : ∃ x, out[k]? = some x := ⟨_, List.getElem?_eq_getElem hlt⟩
      obtain ⟨g, rfl, hgb, hgl, hcell, hfroz⟩ := own_at HOWN.out (by omega)
      have hzx := zTo_get hx
      have c0 := hcell (k * 3 + 0) _ (flat_get (f := idc) idc_len hzx (j := 0) (by omega))
      have c1 := hcell (k * 3 + 1) _ (flat_get (f := idc) idc_len hzx (j := 1) (by omega))
      have c2 := hcell (k * 3 + 2) _ (flat_get (f := idc) idc_len hzx (j := 2) (by omega))
      have f2 := hfroz (k * 3 + 2)
      have hset := own_set HOWN.out (i := k * 3 + 2) (by rw [idcs_length, zTo_length]; omega) (.int .u64 0)
      rw [show (idcs (zTo out k)).set (k * 3 + 2) (.int .u64 0) = idcs (zTo out (k + 1)) by rw [← zTo_step hx]; exact idcs_dl 0 hzx] at hset
      have hf4 : Fr [g] wr (wr.setCell ⟨g, k * 3 + 2, none⟩ (.int .u64 0)) := (Fr.refl _ _).set (.inl (by simp)) _
      have HOWN4 := hide hset
      have HSUP4 : Hid (∀ y ∈ out, OwnSup (wr.setCell ⟨g, k * 3 + 2, none⟩ (.int .u64 0)) w.heap.size y) := hide (fun y hy => own_keep (HSUP.out y hy) HOWN.out (by decide) hf4)
      have HLK4 := hide (own_keep HLK.out HOWN.out (by decide) hf4)
      have hfr4 : Fr [] w (wr.setCell ⟨g, k * 3 + 2, none⟩ (.int .u64 0)) := hfr.step hf4 (fun i hi => .inr (by rw [List.mem_singleton.1 hi]; exact hgb))
      have hz4 : w2.heap.size ≤ (wr.setCell ⟨g, k * 3 + 2, none⟩ (.int .u64 0)).heap.size := Nat.le_trans hz2 hf4.size
      have HX := hide hx
      have HTK := hide (idLinks_take hx)
      have hkl : (k : Int) < (out.length : Int) := by omega
      have hT7 : (idLinks 0 (out.take k)).length ≤ 440 := by
        have := idLinks_bound (B := 20) 0 (out.take k) (fun d hd => by
          obtain ⟨i, hi⟩ := List.getElem?_of_mem (List.mem_of_mem_take hd)
          exact HDEV.out.sl i d hi)
        have htl : (out.take k).length ≤ 8 := by rw [List.length_take]; omega
        omega
      have hsx := HDEV.out.sl k x hx
      obtain ⟨A', cp', esv, -, hrs, -⟩ := own_slice (HSUP4.out x (List.mem_of_getElem? hx))
      have HRS := hide hrs
      have HESV := hide esv
      clear hx hzx hcell hfroz hset hrs esv hf4 hf2
      go_upto_region 9 with (fail)
      clear c0 c1 c2 f2 HOWN HSUP HLK hfr hz2
      generalize wr.setCell ⟨g, k * 3 + 2, none⟩ (.int .u64 0) = w4 at HOWN4 HSUP4 HLK4 hfr4 hz4 HRS ⊢
      obtain ⟨g', eg, -, hgl4, hcell, -⟩ := own_at HOWN4.out (by omega)
      have eg : g' = g := by injection eg with eg; injection eg with eg; exact eg.symm
      subst eg
      have hzx : (zTo out (k + 1))[k]? = some (z0 x) := by rw [← zTo_step HX.out, List.getElem?_set_self (by rw [zTo_length]; omega)]
      have HCZ : Hid (∀ (wx : World), wx.ownsRow w.heap.size 30 3 (.slice (some ⟨g', 0, none⟩) out.length c5) out.length (idcs (zTo out (k + 1))) → wx.cell? ⟨g', k * 3, none⟩ = some (.int .i64 x.par) ∧ wx.cell? ⟨g', k * 3 + 1, none⟩ = some (.slice A' x.sup.length cp')) := hide (fun wx hwx => by
        obtain ⟨g2, e2, -, -, hc2, -⟩ := own_at hwx (by omega)
        have e2 : g2 = g' := by injection e2 with e2; injection e2 with e2; exact e2.symm
        subst e2
        have q0 : (idcs (zTo out (k + 1)))[k * 3 + 0]? = (idc (z0 x))[0]? := flat_get (f := idc) idc_len hzx (by omega)
        have q1 : (idcs (zTo out (k + 1)))[k * 3 + 1]? = (idc (z0 x))[1]? := flat_get (f := idc) idc_len hzx (by omega)
        exact ⟨hc2 (k * 3 + 0) _ q0, by
          rw [← HESV.out]
          exact hc2 (k * 3 + 1) _ q1⟩)
      have d0 := (HCZ.out w4 HOWN4.out).1
      clear hcell hzx
      go_upto_if 45 with (fail)
      go_cut [6] (fun s6 wx => ClC w w2 (some ⟨g', 0, none⟩) c5 out k x s6 wx)
      case first =>
        by_cases h0 : 0 ≤ x.par
        · go_wp2_with (first
          | (at_builtin
             refine wpList_append_row _ rfl (.tmp 46) (.tmp 54) _ rfl w2.heap.size 67 i0 (.agg #[.int .i64 0, .int .i64 0]) 2 16 Try.underlying60 HI.out.1 HI.out.2.1 HI.out.2.2.1 HI.out.2.2.2 rfl (by omega) (.slice A7 (idLinks 0 (out.take k)).length c7) (idLinks 0 (out.take k)).length (pcs (idLinks 0 (out.take k))) rfl
               (own_fr HLK4.out ((Fr.refl [] _).alloc _) (fun _ _ => by simp)) (some ⟨w4.heap.size, 0, none⟩) 1 1 [.int .i64 (k : Int), .int .i64 x.par] rfl rfl (row_two w4 _ _ _) (by intro u hu; simp at hu; rcases hu with rfl | rfl <;> rfl) (by simp only [maxLen]; omega) (by omega) (by simp; omega) ?_
             intro v1 w7 hown7 hg7 hat7))
          have hf47 : Fr (Value.slice A7 (idLinks 0 (out.take k)).length c7).ownBlock.toList w4 w7 := ((Fr.refl _ w4).alloc _).trans (Fr.of_grown hg7)
          have hfw : Fr [] w w7 := hfr4.step hf47 (fun i hi => .inr (Nat.le_trans hf2z (own_block HLK4.out (by simpa using hi)).1))
          obtain ⟨A8, c8, rfl, -, -, -⟩ := own_slice hown7
          go_meet
          refine ⟨idLinks 0 (out.take k) ++ [((k : Int), x.par)], by rw [if_pos h0], own_keep HOWN4.out HLK4.out (by decide) hf47, fun y hy => own_keep (HSUP4.out y hy) HLK4.out (by decide) hf47, ?_, ⟨A8, c8, by rw [List.length_append]; rfl⟩, hfw, Nat.le_trans hz4 hf47.size⟩
          rw [List.length_append, pcs_snoc]
          exact hown7
        · go_wp2_with fail
          go_meet
          exact ⟨idLinks 0 (out.take k), by rw [if_neg (by omega), List.append_nil], HOWN4.out, HSUP4.out, HLK4.out, ⟨A7, c7, rfl⟩, hfr4, hz4⟩
      case rest =>
        obtain ⟨L, hL, hown, hsup, hlk, ⟨A8, c8, rfl⟩, hfc, hzc⟩ := hcut
        have HL2 := hide hL
        have HOWNc := hide hown
        have HSUPc := hide hsup
        have HLKc := hide hlk
        clear hL hown hsup hlk HOWN4 HSUP4 HLK4 d0 hfr4 hz4 HRS hgl4
        clear w4
        have hLk : L.length ≤ 441 := by
          rw [HL2.out, List.length_append]
          split <;> simp <;> omega
        go_wp2
        go_loopg [6, 8] x.sup.length (fun m v i wr => ClB w w2 (some ⟨g', 0, none⟩) c5 out k x.sup L m v i wr)
        case atStart => exact ⟨0, by omega, rfl, HOWNc.out, HSUPc.out, by simpa using HLKc.out, hfc, hzc, rfl⟩
        case round =>
          obtain ⟨j, hj, rfl, hown3, hsup3, hlk3, hfr3, hz3, hmm3⟩ := hrel
          have HM3 := hide hmm3
          have HOWN3 := hide hown3
          have HSUP3 := hide hsup3
          obtain ⟨A9, c9, rfl, -, -, -⟩ := own_slice hlk3
          have HLK3 := hide hlk3
          obtain ⟨d0, d1⟩ := HCZ.out wr HOWN3.out
          clear hmm3 hown3 hsup3 hlk3
          by_cases hlj : j < x.sup.length
          · obtain ⟨y, hy⟩ : ∃ y, x.sup[j]? = some y := ⟨_, List.getElem?_eq_getElem hlj⟩
            obtain ⟨A2, cp2, e2, -, hrs2, -⟩ := own_slice (HSUP3.out x (List.mem_of_getElem? HX.out))
            rw [HESV.out] at e2
            injection e2 with e2
            subst e2
            obtain ⟨ob2, oo2, rfl, q1⟩ := Row.int hrs2 hy
            have hji : (j : Int) < (x.sup.length : Int) := by omega
            have HTJ := hide (take_succ_some hy)
            have hlen3 : (L ++ (x.sup.take j).map fun s => ((k : Int), s)).length ≤ 470 := by
              rw [List.length_append, List.length_map, List.length_take]
              omega
            clear hy hrs2
            generalize hLj : L ++ (x.sup.take j).map (fun s => ((k : Int), s)) = Lj at HLK3 hlen3 ⊢
            have HLJ := hide hLj
            clear hLj
            go_wp2_with (first
          | (at_builtin
             refine wpList_append_row _ rfl (.tmp 66) (.tmp 77) _ rfl w2.heap.size 67 i0 (.agg #[.int .i64 0, .int .i64 0]) 2 16 Try.underlying60 HI.out.1 HI.out.2.1 HI.out.2.2.1 HI.out.2.2.2 rfl (by omega) (.slice A9 Lj.length c9) Lj.length (pcs Lj) rfl
               (own_fr HLK3.out ((Fr.refl [] _).alloc _) (fun _ _ => by simp)) (some ⟨wr.heap.size, 0, none⟩) 1 1 [.int .i64 (k : Int), .int .i64 y] rfl rfl (row_two wr _ _ _) (by intro u hu; simp at hu; rcases hu with rfl | rfl <;> rfl) (by simp only [maxLen]; omega) (by omega) (by simp; omega) ?_
             intro v1 w7 hown7 hg7 hat7))
            have hf37 : Fr (Value.slice A9 Lj.length c9).ownBlock.toList wr w7 := ((Fr.refl _ wr).alloc _).trans (Fr.of_grown hg7)
            have hfw : Fr [] w w7 := hfr3.step hf37 (fun i hi => .inr (Nat.le_trans hf2z (own_block HLK3.out (by simpa using hi)).1))
            go_roundg (x.sup.length - (j + 1))
            case measure => rw [HM3.out]; omega
            case rel =>
              have e : L ++ (x.sup.take (j + 1)).map (fun s => ((k : Int), s)) = Lj ++ [((k : Int), y)] := by
                rw [HTJ.out, List.map_append, ← List.append_assoc, HLJ.out]
                rfl
              refine ⟨j + 1, by omega, by go_num, own_keep HOWN3.out HLK3.out (by decide) hf37, fun y hy => own_keep (HSUP3.out y hy) HLK3.out (by decide) hf37, ?_, hfw, Nat.le_trans hz3 hf37.size, rfl⟩
              rw [e, List.length_append, pcs_snoc]
              exact hown7
          · have hji : ¬ (j : Int) < (x.sup.length : Int) := by omega
            rw [List.take_of_length_le (by omega)] at HLK3 ⊢
            have HT2 : Hid (idLinks 0 (out.take (k + 1)) = L ++ x.sup.map fun s => ((k : Int), s)) := hide (by
              rw [HTK.out, HL2.out]
              unfold linkOf
              rw [List.append_assoc])
            go_wp2
            go_roundg (out.length - (k + 1))
            case measure => rw [HM.out]; omega
            case rel => exact ⟨k + 1, by omega, by go_num, HOWN3.out, HSUP3.out, by rw [HT2.out]; have h := HLK3.out; simp only [List.length_append, List.length_map] at h ⊢; exact h, hfr3, hz3, rfl⟩
    · obtain rfl : k = out.length := by omega
      rw [List.take_length] at HLK ⊢
      rw [zTo_all] at HOWN
      clear HM hk HOWN2 HSUP2
      have hlL : (idLinks 0 out).length ≤ 440 := by
        have := idLinks_bound (B := 20) 0 out (fun d hd => by
          obtain ⟨i, hi⟩ := List.getElem?_of_mem hd
          exact HDEV.out.sl i d hi)
        omega
      have HIDS : Hid (IdsAt wr A5 (out.map z0)) := hide (by
        obtain ⟨A3, c3, e3, -, hr3, -⟩ := own_slice HOWN.out
        injection e3 with e3
        subst e3
        refine ⟨hr3, fun x hx => ?_⟩
        obtain ⟨y, hy, rfl⟩ := List.mem_map.1 hx
        exact OwnSup.at_ (HSUP.out y hy))
      obtain ⟨A8, c8, e8, -, hrL, hrLo⟩ := own_slice HLK.out
      obtain ⟨rfl, rfl⟩ : A7 = A8 ∧ c7 = c8 := by injection e8 with e1 e2 e3; exact ⟨e1, e3⟩
      obtain ⟨A7L, eA7⟩ : ∃ a, a = A7 := ⟨_, rfl⟩
      obtain ⟨c7L, ec7⟩ : ∃ a, a = c7 := ⟨_, rfl⟩
      subst eA7 ec7
      have HROWL := hide hrL
      have HROWLo := hide hrLo
      clear hrL hrLo e8 HOWN HSUP HLK
      have hzl : (out.map z0).length = out.length := by simp
      have hzn : (newRM (out.map z0)).n = out.length := hzl
      have HZN := hide hzn
      have hnew := new28_ok A5 c5 (out.map z0) wr HIDS.out (by omega) (fun x hx => by obtain ⟨i, hi⟩ := List.getElem?_of_mem hx; have := HDZ.out.sl i x hi; omega) HDZ.out.new.1
      rw [hzl] at hnew
      go_wp2_with fail
      refine hnew.mono ?_
      clear hnew hzn
      rintro e w3 ⟨P, rfl, hin, hb, hg, htop, hf3, -⟩
      have HMO := hide HDZ.out.new.2.1
      have HORD := hide HDZ.out.new.2.2.1
      have HIN := hide hin
      have HST := hide (St.zero (newRM (out.map z0)))
      have hlow := hin.low
      clear hin
      have hw3 : Fr [] w w3 := hfr.call hf3
      have HROW3 := hide (HROWL.out.fr0 hf3)
      have HOFF : Hid (Off A7L [P.b, P.g]) := hide (fun ad e hm => by
        have h1 := HROWLo.out ad e
        simp at hm
        rcases hm with hm | hm <;> omega)
      clear HIDS hf3 HROWL
      go_wp2
      go_loopg [11, 12] l.length (fun m t i wr => ClM w3 P out l m t i wr)
      case atStart => exact ⟨0, zeroS, 0, by omega, rfl, rfl, HIN.out, HST.out, by omega, fun _ => by omega, Fr.refl _ _, rfl⟩
      case round =>
        clear HIN HST
        obtain ⟨k, s, now, hk, rfl, rfl, hin, hst, hnow, hnow1, hfr3, hmm⟩ := hrel
        have HM := hide hmm
        have HINr := hide hin
        have HSTr := hide hst
        have hzz := hfr.size
        have hfrw : Fr [] w wr := hw3.step hfr3 (fun i hi => .inr (by simp at hi; rcases hi with rfl | rfl <;> omega))
        clear hmm hin hst
        by_cases hlt : k < l.length
        · obtain ⟨c, hc⟩ : ∃ c, l[k]? = some c := ⟨_, List.getElem?_eq_getElem hlt⟩
          obtain ⟨ob, oo, rfl, c0, c1, c2, c3⟩ := (HL.out.fr0 hfrw).cl hc
          have hkl : (k : Int) < (l.length : Int) := by omega
          have hnow15 : 0 < (newRM (out.map z0)).n → now + 15 ≤ 1152921504606846976 := fun h => by have := hnow1 h; omega
          have hb5 := clr_blk (w := wr) c
          have hf5 := clr_fr (w := wr) c
          have HN1 := hide hnow1
          have HN15 := hide hnow15
          clear hc hnow1 hnow15
          go_upto_region 24 with (fail)
          generalize wr.alloc (.cells #[.int .i64 c.kind, .int .i64 c.dev, .int .u64 (c.wait : Int), .bool false] 54) = w5 at hb5 hf5 ⊢
          generalize wr.heap.size = gc at hb5 ⊢
          obtain ⟨now2, hdo⟩ := do_any (M := newRM (out.map z0)) HORD.out HSTr.out (clr c) rfl hnow HN15.out
          rw [show (newRM (out.map z0)).n = out.length from HZN.out] at hdo
          obtain ⟨R, hR⟩ : ∃ R, R = doC (newRM (out.map z0)) s (clr c) now := ⟨_, rfl⟩
          rw [← hR] at hdo
          have HRD := hide hR
          have HDO := hide hdo
          clear hR hdo
          have e0 : w5.cell? ⟨gc, 0, none⟩ = some (.int .i64 c.kind) := hb5.cell 0
          have e1 : w5.cell? ⟨gc, 1, none⟩ = some (.int .i64 c.dev) := hb5.cell 1
          have e2 : w5.cell? ⟨gc, 2, none⟩ = some (.int .u64 (c.wait : Int)) := hb5.cell 2
          have e3 : w5.cell? ⟨gc, 3, none⟩ = some (.bool false) := hb5.cell 3
          go_wp2_with fail
          refine (at28_any (clr c) out.length now w5 (by omega) hnow).mono ?_
          rintro e w6 ⟨rfl, hf6⟩
          generalize (atM (clr c) out.length now).1 = ad at HDO ⊢
          generalize (atM (clr c) out.length now).2 = tt at HDO ⊢
          have HB6 := hide (hb5.fr hf6 (by simp))
          clear e0 e1 e2 e3 hb5 c0 c1 c2 c3
          have e0 : w6.cell? ⟨gc, 0, none⟩ = some (.int .i64 c.kind) := HB6.out.cell 0
          have e1 : w6.cell? ⟨gc, 1, none⟩ = some (.int .i64 c.dev) := HB6.out.cell 1
          have e2 : w6.cell? ⟨gc, 2, none⟩ = some (.int .u64 (c.wait : Int)) := HB6.out.cell 2
          have e3 : w6.cell? ⟨gc, 3, none⟩ = some (.bool false) := HB6.out.cell 3
          have hf56 := hf5.call hf6
          have HIN6 := hide (HINr.out.fr0 hf56)
          have hz6 := hf56.size
          have hzr := hfr3.size
          go_wp2_with fail
          have hdo28 := (do28_any HIN6.out HMO.out (HSTr.out.sok hnow (by omega)) (by omega) (fun i => by have := HSTr.out.use i; omega) (clr c) now hnow)
          rw [HZN.out] at hdo28
          refine hdo28.mono ?_
          clear hdo28
          rintro e w7 ⟨v, rfl, hin7, hown7, hf7⟩
          rw [← HRD.out] at hin7 hown7 ⊢
          clear e0 e1 e2 e3
          have HIN7 := hide hin7
          have hfr7 : Fr [P.b, P.g] w3 w7 := (hfr3.call hf56).trans hf7
          obtain ⟨A7, c7', rfl, -, -, -⟩ := own_slice hown7
          have hfw7 : Fr [] w w7 := hw3.step hfr7 (fun i hi => .inr (by simp at hi; rcases hi with rfl | rfl <;> omega))
          have HST7 := hide HDO.out.st
          have HEQ0 : Hid ((R.2.2 == 0) = true → now2 = tt) := hide (fun e => HDO.out.ok (by simpa using e))
          have HEQ1 : Hid ((R.2.2 == 0) = false → now2 = now) := hide (fun e => (HDO.out.bad (by simpa using e)).1)
          have HLE := hide (And.intro HDO.out.le HDO.out.near)
          have HROW7 := hide (HROW3.out.fr hfr7 HOFF.out)
          clear hin7 hown7 hf7 HRD HDO
          obtain ⟨s1, ops, er⟩ := R
          dsimp only at HIN7 HST7 HEQ0 HEQ1 ⊢
          generalize hbe : (er == 0) = be at HEQ0 HEQ1
          go_upto_if 119 with (fail)
          go_cut [11] (fun s8 wx => s8 = uv now2 ∧ w7 = wx)
          case first =>
            cases be with
            | true =>
              have e := HEQ0.out rfl
              clear hbe
              go_wp2_with fail
              go_meet
              exact ⟨by rw [e], rfl⟩
            | false =>
              have e := HEQ1.out rfl
              clear hbe
              go_wp2_with fail
              go_meet
              exact ⟨by rw [e], rfl⟩
          case rest =>
            obtain ⟨rfl, rfl⟩ := hcut
            clear hbe
            have hu40 : ∀ j, s1.use j ≤ 41 := fun j => by have := HST7.out.use j; omega
            have HU := hide hu40
            clear hu40
            go_wp2
            go_loopg [18, 19] out.length (fun m v i wr => Cl4 w7 out.length s1.use m v i wr)
            case atStart => exact ⟨0, by omega, rfl, own_nil _ _ _ _, Fr.refl _ _, rfl⟩
            case round =>
              obtain ⟨j, hj, rfl, hown, hfr8, hmm⟩ := hrel
              have HM2 := hide hmm
              obtain ⟨A9, c9, rfl, -, -, -⟩ := own_slice hown
              have HOWN9 := hide hown
              clear hmm hown
              by_cases hjl : j < out.length
              · have hji : (j : Int) < (out.length : Int) := by omega
                have hus := usage28_any (HIN7.out.fr0 hfr8) (j : Int)
                rw [if_pos (show (0 : Int) ≤ (j : Int) ∧ (j : Int) < ((newRM (out.map z0)).n : Int) by rw [HZN.out]; exact ⟨by omega, hji⟩), Int.toNat_natCast] at hus
                have HUS := hide hus
                have HSTEP := hide (usedL_step s1.use j)
                have hll := usedL_len j s1.use
                have hu4 := HU.out j
                clear hus
                by_cases hu0 : 0 < s1.use j
                · have hub : (0 : Int) < (s1.use j : Int) := by omega
                  rw [if_pos hu0] at HSTEP
                  generalize usedL j s1.use = F at HOWN9 HSTEP hll
                  go_wp2_with (first
                    | (refine HUS.out.mono ?_
                       rintro e w8 ⟨rfl, rfl⟩)
                    | (at_builtin
                       refine wpList_append_row _ rfl (.tmp 131) (.tmp 133) _ rfl w7.heap.size 3 i1 (.int .i64 0) 1 8 Try.underlying27 HI1.out.1 HI1.out.2.1 HI1.out.2.2.1 HI1.out.2.2.2 rfl (by omega) (.slice A9 F.length c9) F.length (F.map nv) rfl
                         (own_fr HOWN9.out ((Fr.refl [] _).alloc _) (fun _ _ => by simp)) (some ⟨wr.heap.size, 0, none⟩) 1 1 [.int .i64 (j : Int)] rfl rfl (row_one wr _ _) (by intro u hu; simp at hu; subst hu; rfl) (by simp only [maxLen]; omega) (by omega) (by have := hfr8.size; simp; omega) ?_
                       intro v1 w9 hown9 hg9 hat9))
                  have hf9 : Fr [] w7 w9 := (hfr8.alloc _).grown hg9 (fun y hy => .inr (own_block HOWN9.out hy).1)
                  go_roundg (out.length - (j + 1))
                  case measure => rw [HM2.out]; omega
                  case rel =>
                    refine ⟨j + 1, by omega, by go_num, ?_, hf9, rfl⟩
                    rw [HSTEP.out, List.length_append, List.length_singleton, List.map_append]
                    exact hown9
                · have hub : ¬ (0 : Int) < (s1.use j : Int) := by omega
                  rw [if_neg hu0] at HSTEP
                  go_wp2_with fail
                  refine HUS.out.mono ?_
                  rintro e w8 ⟨rfl, rfl⟩
                  go_wp2
                  go_roundg (out.length - (j + 1))
                  case measure => rw [HM2.out]; omega
                  case rel => exact ⟨j + 1, by omega, by go_num, by rw [HSTEP.out]; exact HOWN9.out, hfr8, rfl⟩
              · obtain rfl : j = out.length := by omega
                have hji : ¬ ((out.length : Nat) : Int) < (out.length : Int) := by omega
                clear HM2 hj hjl
                have hll := usedL_len out.length s1.use
                have hsm : (((usedL out.length s1.use).map Int.ofNat).map (Value.int .i64)) = (usedL out.length s1.use).map nv := by rw [List.map_map]; rfl
                obtain ⟨A10, c10, e10, -, hrow9, -⟩ := own_slice HOWN9.out
                obtain ⟨rfl, rfl⟩ : A9 = A10 ∧ c9 = c10 := by injection e10 with e1 e2 e3; exact ⟨e1, e3⟩
                rw [← hsm] at hrow9
                have hsup := suppliers_any (out.length : Int) A7L A9 c7L c9 (idLinks 0 out) ((usedL out.length s1.use).map Int.ofNat) wr (HROW7.out.fr0 hfr8) hrow9 (by omega) (by rw [List.length_map]; omega)
                rw [List.length_map] at hsup
                have HCL := hide (closure_on HDEV.out HST7.out)
                clear hsm e10 hrow9 HOWN9
                generalize (usedL out.length s1.use).length = nu at hsup ⊢
                go_wp2_with fail
                refine hsup.mono ?_
                clear hsup
                rintro e w9 ⟨v9, rfl, hown9, hf9⟩
                rw [HCL.out] at hown9 ⊢
                dsimp only at hown9 ⊢
                have hF := List.length_filter_le s1.act (List.range out.length)
                rw [List.length_range] at hF
                have HAT := hide (fun (j : Nat) (hj : j < out.length) => act_at (act := s1.act) hj)
                have hf79 := hfr8.call hf9
                have HIN9 := hide (HIN7.out.fr0 hf79)
                obtain ⟨A11, c11, rfl, -, hrow11, -⟩ := own_slice hown9
                have HR11 := hide hrow11
                clear hown9 hrow11 HCL HIN7
                obtain ⟨F, hFd⟩ : ∃ F, F = (List.range out.length).filter s1.act := ⟨_, rfl⟩
                rw [← hFd] at HR11 hF ⊢
                have HFD := hide hFd
                clear hFd
                go_wp2
                go_loopg [22, 23] out.length (fun m c i wr => Cl5 w9 out.length s1.act m c i wr)
                case atStart => exact ⟨0, by omega, rfl, rfl, rfl, rfl⟩
                case round =>
                  obtain ⟨q, hq, rfl, rfl, rfl, hmm⟩ := hrel
                  have HM5 := hide hmm
                  clear hmm
                  by_cases hql : q < out.length
                  · have hqi : (q : Int) < (out.length : Int) := by omega
                    have hac := active28_any HIN9.out (q : Int)
                    rw [decide_eq_true (show (0 : Int) ≤ (q : Int) ∧ (q : Int) < ((newRM (out.map z0)).n : Int) by rw [HZN.out]; exact ⟨by omega, hqi⟩), Int.toNat_natCast] at hac
                    obtain ⟨hat1, hat2⟩ := HAT.out q hql
                    rw [← HFD.out] at hat1 hat2
                    have HAC := hide hac
                    have HRS := hide (filter_range_succ s1.act q)
                    clear hac
                    have hgq := List.length_filter_le s1.act (List.range q)
                    rw [List.length_range] at hgq
                    generalize (List.range q).filter s1.act = G at hat1 hat2 HRS hgq ⊢
                    cases hact : s1.act q with
                    | true =>
                      have h1 := hat1 hact
                      rw [hact, if_pos rfl] at HRS
                      rw [hact] at HAC
                      obtain ⟨ob, oo, rfl, c1⟩ := HR11.out.at_ (i := G.length) (u := nv q) (by rw [List.getElem?_map, h1]; rfl)
                      have hgl := (List.getElem?_eq_some_iff.1 h1).1
                      have hgi : (G.length : Int) < (F.length : Int) := by omega
                      have b1 : decide (G.length < F.length) = true := by simp; omega
                      have b2 : decide ((G.length : Int) < (F.length : Int)) = true := by simp; omega
                      clear hat1 hat2 h1 hact
                      go_wp2_with fail
                      refine HAC.out.mono ?_
                      rintro e w10 ⟨rfl, rfl⟩
                      go_wp2_with fail
                      refine HAC.out.mono ?_
                      rintro e w10 ⟨rfl, rfl⟩
                      go_wp2
                      go_roundg (out.length - (q + 1))
                      case measure => rw [HM5.out]; omega
                      case rel => exact ⟨q + 1, by omega, by go_num, by rw [HRS.out, List.length_append, List.length_singleton]; rfl, rfl, rfl⟩
                    | false =>
                      rw [hact, if_neg (by decide)] at HRS
                      rw [hact] at HAC
                      have HA2 := hide hat2
                      have hnf : ¬ s1.act q = true := by rw [hact]; decide
                      clear hat1 hat2
                      by_cases hgl : G.length < F.length
                      · obtain ⟨y, hy⟩ : ∃ y, F[G.length]? = some y := ⟨_, List.getElem?_eq_getElem hgl⟩
                        have hyq : y ≠ q := (HA2.out y hy).resolve_right hnf
                        obtain ⟨ob, oo, rfl, c1⟩ := HR11.out.at_ (i := G.length) (u := nv y) (by rw [List.getElem?_map, hy]; rfl)
                        have hgi : (G.length : Int) < (F.length : Int) := by omega
                        have b1 : decide (G.length < F.length) = true := by simp; omega
                        have b2 : decide ((G.length : Int) < (F.length : Int)) = true := by simp; omega
                        have b3 : ((y : Int) == (q : Int)) = false := by simp; omega
                        have b4 : (y == q) = false := by simp; omega
                        clear hy hact hnf
                        go_wp2_with fail
                        refine HAC.out.mono ?_
                        rintro e w10 ⟨rfl, rfl⟩
                        go_wp2_with fail
                        refine HAC.out.mono ?_
                        rintro e w10 ⟨rfl, rfl⟩
                        go_wp2
                        go_roundg (out.length - (q + 1))
                        case measure => rw [HM5.out]; omega
                        case rel => exact ⟨q + 1, by omega, by go_num, by rw [HRS.out], rfl, rfl⟩
                      · have hgi : ¬ (G.length : Int) < (F.length : Int) := by omega
                        have b1 : decide (G.length < F.length) = false := by simp; omega
                        have b2 : decide ((G.length : Int) < (F.length : Int)) = false := by simp; omega
                        clear hact hnf
                        go_wp2_with fail
                        refine HAC.out.mono ?_
                        rintro e w10 ⟨rfl, rfl⟩
                        go_wp2_with fail
                        refine HAC.out.mono ?_
                        rintro e w10 ⟨rfl, rfl⟩
                        go_wp2
                        go_roundg (out.length - (q + 1))
                        case measure => rw [HM5.out]; omega
                        case rel => exact ⟨q + 1, by omega, by go_num, by rw [HRS.out], rfl, rfl⟩
                  · obtain rfl : q = out.length := by omega
                    have hqi : ¬ ((out.length : Nat) : Int) < (out.length : Int) := by omega
                    rw [← HFD.out]
                    have hle := HLE.out.1
                    have hnear := HLE.out.2
                    have hn1 := HN1.out
                    have HNN : Hid (0 < (newRM (out.map z0)).n → now2 ≤ 15 * (k + 1)) := hide (fun h => by have := hnear h; have := hn1 h; omega)
                    have bne : ((F.length : Int) != (F.length : Int)) = false := by simp
                    clear hnear hn1
                    go_wp2
                    go_roundg (l.length - (k + 1))
                    case measure => rw [HM.out]; omega
                    case rel => exact ⟨k + 1, s1, now2, by omega, by go_num, rfl, HIN9.out, HST7.out, hle, HNN.out, hfr7.step hf79 (fun _ e => by cases e), rfl⟩
        · have hkl : ¬ (k : Int) < (l.length : Int) := by omega
          go_wp2_with fail
          refine (awake28_any wr).mono ?_
          rintro e w7 ⟨rfl, hf7⟩
          go_wp2
          go_ret
          exact ⟨rfl, hfrw.call hf7⟩
end Go.Proofs.Ytbnfdpemfmeldaa
