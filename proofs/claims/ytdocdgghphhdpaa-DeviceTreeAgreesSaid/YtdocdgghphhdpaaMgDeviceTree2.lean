/- append onto a row of the call's own, the source nil, empty or not: the laws of the guide's page on words for memory, turned to 'Row'. -/
import Derived.Test.YtdocdgghphhdpaaBase
import Derived.Maps.AppendAt
import Derived.Deep.AppendLies
import Derived.RegionTactic
import Derived.OwnWalk
import Derived.Test.YtdocdgghphhdpaaMgDeviceTree1
namespace Go.Proofs.Ytdocdgghphhdpaa
open Go.RowKit
section
variable {P : Program} (w : World)

theorem run_append_of_nil (base : Nat) (t ty e : TypeId) (i : TypeInfo) (size : Nat) (ht : P.underlying t = some (.slice e)) (hi : P.info? e = some i)
    (v : Value) (n : Nat) (xs : List Value) (hown : w.ownsRow base e size v n xs) (c : Nat) : (Builtin.append_ #[t, t] ty #[v, .slice none 0 c]).run P w = .ok v w := by
  rcases hown.2 with ⟨rfl, rfl⟩ | ⟨g, cap, cur, rfl, _, _, hnc, _⟩
  · simp [Builtin.append_, run_underlying ht, sizeOf, typeInfo, hi, Builtin.lenOf, Builtin.firstCells]
  · simp [Builtin.append_, run_underlying ht, sizeOf, typeInfo, hi, Builtin.lenOf, Builtin.firstCells, hnc, storeCells]

theorem run_append_row (base : Nat) (t ty e : TypeId) (i : TypeInfo) (z : Value) (size bytes : Nat) (ht : P.underlying t = some (.slice e)) (hi : P.info? e = some i) (hz : i.zero = some z)
    (hsize : i.size = size) (hby : i.bytes = bytes) (hzs : z.cells.size = size) (hsz : 0 < size)
    (v : Value) (n : Nat) (xs : List Value) (hown : w.ownsRow base e size v n xs)
    (A : Option Addr) (m c : Nat) (news : List Value) (hl : news.length = m * size) (hr : Row w A news) (h1 : ∀ u ∈ news, u.oneCell' = true)
    (h63 : n + m ≤ maxLen) (hbytes : (n + m) * bytes ≤ 140737488355328) (hbase : base ≤ w.heap.size) :
    ∃ v' w', (Builtin.append_ #[t, t] ty #[v, .slice A m c]).run P w = .ok v' w' ∧ w'.ownsRow base e size v' (n + m) (xs ++ news) ∧ w.grownBy w' v.ownBlock ∧
      (v'.ownBlock = v.ownBlock ∨ v'.ownBlock = some w.heap.size) := by
  have hm0 : m = 0 → news = [] := fun h => List.eq_nil_of_length_eq_zero (by rw [hl, h]; simp)
  rcases A with _ | ad
  · have hm : m = 0 := by
      rcases Nat.eq_zero_or_pos m with h0 | h0
      · exact h0
      · obtain ⟨ob, oo, h, _⟩ := hr (by rw [hl]; exact Nat.mul_pos h0 hsz)
        cases h
    have hn := hm0 hm
    subst hm
    subst hn
    exact ⟨v, w, run_append_of_nil w base t ty e i size ht hi v n xs hown c, by simpa using hown, World.grownBy.refl w _, .inl rfl⟩
  · have hcells : ∀ j u, news[j]? = some u → w.cell? (ad.add j) = some u := by
      intro j u hu
      have hj : j < news.length := (List.getElem?_eq_some_iff.1 hu).1
      obtain ⟨ob, oo, h, hc⟩ := hr (by omega)
      injection h with h
      subst h
      have := hc j u hu
      rcases Nat.eq_zero_or_pos j with h0 | h0
      · subst h0; simpa [Addr.add] using this
      · have hj0 : j ≠ 0 := by omega
        simpa [Addr.add, hj0] using this
    obtain ⟨v', w', hrun, h2, h3, _, h5⟩ := run_append_own_at (P := P) w base t ty e i z size bytes ht hi hz hsize hby hzs hsz v n xs hown ad m c news hl hcells h1 h63 hbytes hbase
    exact ⟨v', w', hrun, h2, h3, h5⟩

theorem wp_append_row {o : Oper} {a : Act} {K : Act → World → Prop} {Q : Exit → Act → World → Prop} (s x : Operand) (t : TypeId)
    (ho : o.op = .call { callee := .builtin .append, args := #[s, x], argTypes := #[t, t] })
    (base : Nat) (e : TypeId) (i : TypeInfo) (z : Value) (size bytes : Nat) (ht : P.underlying t = some (.slice e)) (hi : P.info? e = some i) (hz : i.zero = some z)
    (hsize : i.size = size) (hby : i.bytes = bytes) (hzs : z.cells.size = size) (hsz : 0 < size)
    (v : Value) (n : Nat) (xs : List Value) (hs : a.eval s = v) (hown : w.ownsRow base e size v n xs)
    (A : Option Addr) (m c : Nat) (news : List Value) (hx : a.eval x = .slice A m c) (hl : news.length = m * size) (hr : Row w A news) (h1 : ∀ u ∈ news, u.oneCell' = true)
    (h63 : n + m ≤ maxLen) (hbytes : (n + m) * bytes ≤ 140737488355328) (hbase : base ≤ w.heap.size)
    (h : ∀ v' w', w'.ownsRow base e size v' (n + m) (xs ++ news) → w.grownBy w' v.ownBlock → (v'.ownBlock = v.ownBlock ∨ v'.ownBlock = some w.heap.size) → K (a.put o.dst v') w') : o.wp P a w K Q := by
  obtain ⟨v', w', hrun, h2, h3, h4⟩ := run_append_row (P := P) w base t o.type e i z size bytes ht hi hz hsize hby hzs hsz v n xs hown A m c news hl hr h1 h63 hbytes hbase
  unfold Oper.wp execOp
  simp only [ho, resolve, invoke, builtin, Sem.run_bind, Sem.run_pure, Result.andThen_ok, List.map_toArray, List.map_cons, List.map_nil, hs, hx, hrun]
  exact h v' w' h2 h3 h4

/-- append in a plain region, outside or inside a loop: 'at_builtin; refine wpList_append_row ..'. -/
theorem wpList_append_row {ops : Array Oper} {rest : List Oper} {o : Oper} {a : Act} {Q : Exit → Act → World → Prop} (hgd : o.guard = none) (s x : Operand) (t : TypeId)
    (ho : o.op = .call { callee := .builtin .append, args := #[s, x], argTypes := #[t, t] })
    (base : Nat) (e : TypeId) (i : TypeInfo) (z : Value) (size bytes : Nat) (ht : P.underlying t = some (.slice e)) (hi : P.info? e = some i) (hz : i.zero = some z)
    (hsize : i.size = size) (hby : i.bytes = bytes) (hzs : z.cells.size = size) (hsz : 0 < size)
    (v : Value) (n : Nat) (xs : List Value) (hs : a.eval s = v) (hown : w.ownsRow base e size v n xs)
    (A : Option Addr) (m c : Nat) (news : List Value) (hx : a.eval x = .slice A m c) (hl : news.length = m * size) (hr : Row w A news) (h1 : ∀ u ∈ news, u.oneCell' = true)
    (h63 : n + m ≤ maxLen) (hbytes : (n + m) * bytes ≤ 140737488355328) (hbase : base ≤ w.heap.size)
    (h : ∀ v' w', w'.ownsRow base e size v' (n + m) (xs ++ news) → w.grownBy w' v.ownBlock → (v'.ownBlock = v.ownBlock ∨ v'.ownBlock = some w.heap.size) → wpList P ops Q rest (a.put o.dst v') w') : wpList P ops Q (o :: rest) a w :=
  wpList_plain hgd fun _ hK => wp_append_row w s x t ho base e i z size bytes ht hi hz hsize hby hzs hsz v n xs hs hown A m c news hx hl hr h1 h63 hbytes hbase fun v' w' h2 h3 h4 => hK _ _ (h v' w' h2 h3 h4)

theorem step_append_row {ops : Array Oper} {o : Oper} {a : Act} {K : Act → World → Prop} {Q : Exit → Act → World → Prop} {E : Prop} (hgd : o.guard = none) (s x : Operand) (t : TypeId)
    (ho : o.op = .call { callee := .builtin .append, args := #[s, x], argTypes := #[t, t] })
    (base : Nat) (e : TypeId) (i : TypeInfo) (z : Value) (size bytes : Nat) (ht : P.underlying t = some (.slice e)) (hi : P.info? e = some i) (hz : i.zero = some z)
    (hsize : i.size = size) (hby : i.bytes = bytes) (hzs : z.cells.size = size) (hsz : 0 < size)
    (v : Value) (n : Nat) (xs : List Value) (hs : a.eval s = v) (hown : w.ownsRow base e size v n xs)
    (A : Option Addr) (m c : Nat) (news : List Value) (hx : a.eval x = .slice A m c) (hl : news.length = m * size) (hr : Row w A news) (h1 : ∀ u ∈ news, u.oneCell' = true)
    (h63 : n + m ≤ maxLen) (hbytes : (n + m) * bytes ≤ 140737488355328) (hbase : base ≤ w.heap.size)
    (h : ∀ v' w', w'.ownsRow base e size v' (n + m) (xs ++ news) → w.grownBy w' v.ownBlock → (v'.ownBlock = v.ownBlock ∨ v'.ownBlock = some w.heap.size) → K (a.put o.dst v') w') :
    if Region.wanted o (yielded ops a.tmps) = true then Oper.wp P o a w K Q else E := by
  have hw : Region.wanted o (yielded ops a.tmps) = true := by simp [Region.wanted, hgd]
  rw [if_pos hw]
  exact wp_append_row w s x t ho base e i z size bytes ht hi hz hsize hby hzs hsz v n xs hs hown A m c news hx hl hr h1 h63 hbytes hbase h
/-- An operation whose run is known: a value, the world as it comes out. -/
theorem wpList_value {ops : Array Oper} {rest : List Oper} {o : Oper} {a : Act} {Q : Exit → Act → World → Prop} (hgd : o.guard = none) (v : Value) (w' : World)
    (hrun : (execOp a.eval o).run P w = .ok (.value v) w') (h : wpList P ops Q rest (a.put o.dst v) w') : wpList P ops Q (o :: rest) a w :=
  wpList_plain hgd fun _ hK => by
    unfold Oper.wp
    rw [hrun]
    exact hK _ _ h
end
end Go.Proofs.Ytdocdgghphhdpaa

/- Walks: device.difference. -/
namespace Go.Proofs.Ytdocdgghphhdpaa
open Go.RowKit

theorem int_info27 : (Try.prog.info? 3).map (fun i => (i.zero, i.size, i.bytes)) = some (some (.int .i64 0), 1, 8) := by kernel_rfl
def diffM (l u : List Int) : List Int := l.filter fun x => !decide (x ∈ u)
theorem diffM_snoc (l u : List Int) (x : Int) : diffM (l ++ [x]) u = if x ∈ u then diffM l u else diffM l u ++ [x] := by
  unfold diffM
  rw [List.filter_append]
  by_cases h : x ∈ u <;> simp [h]
def DfRel (w : World) (l u : List Int) (m : Nat) (v i : Value) (wr : World) : Prop :=
  ∃ k : Nat, k ≤ l.length ∧ i = .int .i64 k ∧ wr.ownsRow w.heap.size 3 1 v (diffM (l.take k) u).length ((diffM (l.take k) u).map (Value.int .i64)) ∧ Fr [] w wr ∧ m = l.length - k
set_option maxHeartbeats 2000000 in
theorem difference_any (A B : Option Addr) (cp cq : Nat) (l u : List Int) (w : World) (hr : Row w A (l.map (Value.int .i64))) (hb : Row w B (u.map (Value.int .i64))) (hn : l.length ≤ 4096) (hu : u.length ≤ 4096) (ha : Asc u) :
    Calls Try.prog 98 #[.slice A l.length cp, .slice B u.length cq] w (OwnRet w 3 1 (diffM l u).length ((diffM l u).map (Value.int .i64))) := by
  obtain ⟨i0, hi0, hz0, hz1, hz2⟩ := info_parts int_info27
  have HI := hide (And.intro hi0 (And.intro hz0 (And.intro hz1 hz2)))
  have HR := hide hr
  have HB := hide hb
  have HA := hide ha
  clear hr hb ha hi0 hz0 hz1 hz2
  go_enter Try.func98, Try.ntmps98
  go_wp2
  go_loopg [5, 12] l.length (fun m v i wr => DfRel w l u m v i wr)
  case atStart => exact ⟨0, by omega, rfl, own_nil _ _ _ _, Fr.refl _ _, rfl⟩
  case round =>
    obtain ⟨k, hk, rfl, hown, hfr, hmm⟩ := hrel
    have HM := hide hmm
    clear hmm
    obtain ⟨A5, c5, rfl, -, -, -⟩ := own_slice hown
    have HOWN := hide hown
    clear hown
    by_cases hlt : k < l.length
    · obtain ⟨x, hx⟩ : ∃ x, l[k]? = some x := ⟨_, List.getElem?_eq_getElem hlt⟩
      obtain ⟨ob, oo, e, c1⟩ := (HR.out.fr0 hfr).int hx
      subst e
      have hkl : (k : Int) < (l.length : Int) := by omega
      have hts : l.take (k + 1) = l.take k ++ [x] := by rw [List.take_add_one, hx]; rfl
      have HSN := hide (diffM_snoc (l.take k) u x)
      rw [← hts] at HSN
      have hll : (diffM (l.take k) u).length ≤ 4096 := by
        have h1 := List.length_filter_le (fun x => !decide (x ∈ u)) (l.take k)
        have h2 : (l.take k).length ≤ l.length := by rw [List.length_take]; omega
        unfold diffM
        omega
      clear hx hts
      generalize diffM (l.take k) u = F at HOWN HSN hll ⊢
      go_wp2_with fail
      refine (bsearch_any B cq u x wr (HB.out.fr0 hfr) hu HA.out).mono ?_
      rintro e w1 ⟨bi, rfl, hf1⟩
      by_cases hin : x ∈ u
      · rw [decide_eq_true hin]
        rw [if_pos hin] at HSN
        clear hin
        go_wp2
        go_roundg (l.length - (k + 1))
        case measure => rw [HM.out]; omega
        case rel => exact ⟨k + 1, by omega, by go_num, by rw [HSN.out]; exact own_fr HOWN.out hf1 (fun _ _ => by simp), hfr.call hf1, rfl⟩
      · rw [decide_eq_false hin]
        rw [if_neg hin] at HSN
        have HO1 := hide (own_fr HOWN.out hf1 (fun _ _ => by simp))
        have hf01 := hfr.call hf1
        have hsz : w.heap.size ≤ w1.heap.size + 1 := by have := hf01.size; omega
        clear hin
        go_wp2_with (first
          | (at_builtin
             refine wpList_append_row _ rfl (.tmp 24) (.tmp 26) _ rfl w.heap.size 3 i0 (.int .i64 0) 1 8 Try.underlying34 HI.out.1 HI.out.2.1 HI.out.2.2.1 HI.out.2.2.2 rfl (by omega) (.slice A5 F.length c5) F.length (F.map (Value.int .i64)) rfl
               (own_fr HO1.out ((Fr.refl [] _).alloc _) (fun _ _ => by simp)) (some ⟨w1.heap.size, 0, none⟩) 1 1 [.int .i64 x] rfl rfl (row_one w1 _ _) (by intro u hu; simp at hu; subst hu; rfl) (by simp only [maxLen]; omega) (by omega) (by simpa using hsz) ?_
             intro v1 w9 hown9 hg9 hat9))
        have hf9 : Fr [] w w9 := (hf01.alloc _).grown hg9 (fun y hy => .inr (own_block HO1.out hy).1)
        go_roundg (l.length - (k + 1))
        case measure => rw [HM.out]; omega
        case rel =>
          refine ⟨k + 1, by omega, by go_num, ?_, hf9, rfl⟩
          rw [HSN.out, List.length_append, List.length_singleton, List.map_append]
          exact hown9
    · have hkl : ¬ (k : Int) < (l.length : Int) := by omega
      rw [List.take_of_length_le (by omega)] at HOWN ⊢
      go_wp2
      go_ret
      exact ⟨_, rfl, HOWN.out, hfr⟩
end Go.Proofs.Ytdocdgghphhdpaa

