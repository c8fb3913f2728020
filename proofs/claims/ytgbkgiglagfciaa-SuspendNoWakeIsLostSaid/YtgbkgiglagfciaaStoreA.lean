/- A struct stored into a row that is known whole. -/
import Derived.Test.YtgbkgiglagfciaaApp
import Derived.Laws.CopyRow
namespace Go.Proofs.Ytgbkgiglagfciaa
open Go.RowKit
section
variable {P : Program} (w : World)
/-- The row with some cells written over. -/
def over (cur : Array Value) (off : Nat) (cs : Array Value) : Array Value := (cur.toList.take off ++ cs.toList ++ cur.toList.drop (off + cs.size)).toArray
theorem over_in {cur cs : Array Value} {off t : Nat} (hfit : off + cs.size ≤ cur.size) (h1 : off ≤ t) (h2 : t < off + cs.size) : (over cur off cs)[t]? = cs[t - off]? := by
  have hl : (cur.toList.take off).length = off := by simp; omega
  simp only [over, List.getElem?_toArray]
  rw [List.append_assoc, List.getElem?_append_right (by omega), hl, List.getElem?_append_left (by simp; omega)]
  simp
theorem over_out {cur cs : Array Value} {off t : Nat} (hfit : off + cs.size ≤ cur.size) (h : t < off ∨ off + cs.size ≤ t) : (over cur off cs)[t]? = cur[t]? := by
  have hl : (cur.toList.take off).length = off := by simp; omega
  simp only [over, List.getElem?_toArray]
  rcases h with h | h
  · rw [List.append_assoc, List.getElem?_append_left (by omega), List.getElem?_take_of_lt h]
    simp
  · have hl2 : (cur.toList.take off ++ cs.toList).length = off + cs.size := by simp; omega
    rw [List.getElem?_append_right (by omega), hl2, List.getElem?_drop, show off + cs.size + (t - (off + cs.size)) = t by omega]
    simp
theorem fr_setRow (w : World) (g : Nat) (cs : Array Value) : Fr [g] w (w.setRow g cs) := ⟨rfl, rfl, rfl, by simp, fun k _ hk => setRow_other w g k cs (fun e => hk (by simp [e]))⟩
theorem run_store_row (t : TypeId) (g off : Nat) (cs : Array Value) (hsz : (P.info? t).map (·.size) = some cs.size) (cur : Array Value) (ty : TypeId) (hb : Blk w g ty cur) (hfit : off + cs.size ≤ cur.size) (h1 : ∀ u ∈ cs.toList, u.oneCell' = true) :
    (storeVar t ⟨g, off, none⟩ (.agg cs)).run P w = .ok () (w.setRow g (over cur off cs)) := by
  have h := run_storeCells_at P g off ty cs.toList 0 cur w hb (by simpa using hfit) h1
  cases hq : P.info? t with
  | none => simp [hq] at hsz
  | some i =>
    have hi : i.size = cs.size := by simpa [hq] using hsz
    simp [storeVar, sizeOf, typeInfo, hq, hi, Value.cells]
    simpa [over] using h
theorem wp_store_row {o : Oper} {a : Act} {K : Act → World → Prop} {Q : Exit → Act → World → Prop} (p v : Operand) (t : TypeId) (ho : o.op = .store t p v) (g off : Nat) (cs : Array Value)
    (hp : a.eval p = .pointer (some ⟨g, off, none⟩)) (hv : a.eval v = .agg cs) (hsz : (P.info? t).map (·.size) = some cs.size) (cur : Array Value) (ty : TypeId) (hb : Blk w g ty cur) (hfit : off + cs.size ≤ cur.size) (h1 : ∀ u ∈ cs.toList, u.oneCell' = true)
    (h : ∀ w', Blk w' g ty (over cur off cs) → Fr [g] w w' → K (a.put o.dst undef) w') : o.wp P a w K Q := by
  have hr := run_store_row w t g off cs hsz cur ty hb hfit h1
  unfold Oper.wp execOp
  simp only [ho, hp, hv, Instr.storeAt, Instr.sureAddr, asAddr, Sem.run_bind, Sem.run_pure, Result.andThen_ok, hr]
  exact h _ (setRow_heap w g cur _ ty _ hb) (fr_setRow w g _)
theorem step_store_row {ops : Array Oper} {o : Oper} {a : Act} {K : Act → World → Prop} {Q : Exit → Act → World → Prop} {E : Prop} (hgd : o.guard = none) (p v : Operand) (t : TypeId) (ho : o.op = .store t p v) (g off : Nat) (cs : Array Value)
    (hp : a.eval p = .pointer (some ⟨g, off, none⟩)) (hv : a.eval v = .agg cs) (hsz : (P.info? t).map (·.size) = some cs.size) (cur : Array Value) (ty : TypeId) (hb : Blk w g ty cur) (hfit : off + cs.size ≤ cur.size) (h1 : ∀ u ∈ cs.toList, u.oneCell' = true)
    (h : ∀ w', Blk w' g ty (over cur off cs) → Fr [g] w w' → K (a.put o.dst undef) w') :
    if Region.wanted o (yielded ops a.tmps) = true then Oper.wp P o a w K Q else E := by
  have hw : Region.wanted o (yielded ops a.tmps) = true := by simp [Region.wanted, hgd]
  rw [if_pos hw]
  exact wp_store_row w p v t ho g off cs hp hv hsz cur ty hb hfit h1 h
theorem wpList_store_row {ops : Array Oper} {rest : List Oper} {o : Oper} {a : Act} {Q : Exit → Act → World → Prop} (hgd : o.guard = none) (p v : Operand) (t : TypeId) (ho : o.op = .store t p v) (g off : Nat) (cs : Array Value)
    (hp : a.eval p = .pointer (some ⟨g, off, none⟩)) (hv : a.eval v = .agg cs) (hsz : (P.info? t).map (·.size) = some cs.size) (cur : Array Value) (ty : TypeId) (hb : Blk w g ty cur) (hfit : off + cs.size ≤ cur.size) (h1 : ∀ u ∈ cs.toList, u.oneCell' = true)
    (h : ∀ w', Blk w' g ty (over cur off cs) → Fr [g] w w' → wpList P ops Q rest (a.put o.dst undef) w') : wpList P ops Q (o :: rest) a w :=
  wpList_plain hgd fun _ hK => wp_store_row w p v t ho g off cs hp hv hsz cur ty hb hfit h1 fun w' h2 h3 => hK _ _ (h w' h2 h3)
end
end Go.Proofs.Ytgbkgiglagfciaa
