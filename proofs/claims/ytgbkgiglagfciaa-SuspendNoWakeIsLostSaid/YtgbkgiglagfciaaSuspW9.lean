/- Walks: law30's Order. -/
import Derived.Test.YtgbkgiglagfciaaSuspW8
import Derived.Laws.CopyOwn
namespace Go.Proofs.Ytgbkgiglagfciaa
open Go.RowKit

def ordM (raw : List Int) : Nat → List Nat
  | 0 => []
  | i + 1 => (ordM raw i).take (umod (raw.getD i 0) (i + 1)) ++ i :: (ordM raw i).drop (umod (raw.getD i 0) (i + 1))
theorem ordM_length (raw : List Int) : ∀ i, (ordM raw i).length = i
  | 0 => rfl
  | i + 1 => by
    have h1 := ordM_length raw i
    have h2 := umod_lt (raw.getD i 0) (n := i + 1) (by omega)
    simp [ordM, h1]
    omega
def ordR (raw : List Int) : List Nat := ordM raw (min raw.length 7)

theorem int_size : (Try.prog.info? 3).map (·.size) = some 1 := by kernel_rfl
theorem addr_add (g o j : Nat) : (⟨g, o, none⟩ : Addr).add j = ⟨g, o + j, none⟩ := by
  unfold Addr.add
  split
  · rename_i h; subst h; rfl
  · rfl
def OrdRel (w : World) (raw : List Int) (n : Nat) (m : Nat) (v i : Value) (wr : World) : Prop :=
  ∃ k : Nat, k ≤ n ∧ i = .int .i64 k ∧ wr.ownsRow w.heap.size 3 1 v k ((ordM raw k).map nv) ∧ Fr [] w wr ∧ m = n - k

theorem ord_splice {o : List Nat} {cur : List Value} {q k : Nat} (h1 : (o.drop q |>.map nv).length = k - q) (h2 : o.length = k) (hq : q ≤ k) (hc : k + 1 ≤ cur.length) (h3 : cur.take ((k + 1) * 1) = o.map nv ++ [.int .i64 0]) :
    ((splice cur (q + 1) (o.drop q |>.map nv)).toArray.setIfInBounds q (.int .i64 k)).toList.take ((k + 1) * 1) = (o.take q ++ k :: o.drop q).map nv := by
  have hl : (splice cur (q + 1) (o.drop q |>.map nv)).length = cur.length := length_splice _ _ _ (by rw [h1]; omega)
  have hcu : ∀ i, i < k → cur[i]? = (o.map nv)[i]? := fun i hi => by
    have : (cur.take ((k + 1) * 1))[i]? = (o.map nv ++ [.int .i64 0])[i]? := by rw [h3]
    rw [List.getElem?_take, if_pos (by omega), List.getElem?_append_left (by rw [List.length_map]; omega)] at this
    exact this
  apply List.ext_getElem?
  intro i
  rw [List.getElem?_take]
  split
  · rename_i hi
    have hi' : i < k + 1 := by omega
    simp only [List.setIfInBounds_toArray]
    rw [List.getElem?_set]
    split
    · rename_i e
      subst e
      rw [if_pos (by rw [hl]; omega)]
      rw [List.map_append, List.getElem?_append_right (by simp; omega)]
      simp [nv, h2, Nat.min_eq_left hq]
    · rename_i hne
      unfold splice
      rw [List.map_append]
      rcases Nat.lt_or_ge i q with h | h
      · rw [List.getElem?_append_left (by rw [List.length_take]; omega), List.getElem?_take, if_pos (by omega), hcu i (by omega), List.getElem?_append_left (by simp; omega)]
        simp [List.getElem?_take, h]
      · rw [List.getElem?_append_right (by rw [List.length_take]; omega), List.length_take, Nat.min_eq_left (by omega), List.getElem?_append_left (by rw [h1]; omega), List.getElem?_append_right (by simp; omega)]
        simp only [List.length_map, List.length_take, h2, Nat.min_eq_left hq, List.map_cons]
        rw [show i - q = (i - (q + 1)) + 1 by omega, List.getElem?_cons_succ]
  · rename_i hi
    rw [List.getElem?_eq_none]
    simp [h2]
    omega
set_option maxHeartbeats 2000000 in
theorem order_any (A : Option Addr) (cp : Nat) (raw : List Int) (w : World) (hr : Row w A (raw.map (Value.int .i64))) (hn : raw.length ≤ 4096) :
    Calls Try.prog 13 #[.slice A raw.length cp] w (OwnRet w 3 1 (ordR raw).length ((ordR raw).map nv)) := by
  obtain ⟨i0, hi0, hz0, hz1, hz2⟩ := info_parts int_info
  have HI := hide (And.intro hi0 (And.intro hz0 (And.intro hz1 hz2)))
  have HR := hide hr
  clear hr hi0 hz0 hz1 hz2
  by_cases hc : 7 < raw.length
  all_goals
    go_enter Try.func13, Try.ntmps13
    go_wp2
    go_loopg [4, 5] (min raw.length 7) (fun m v i wr => OrdRel w raw (min raw.length 7) m v i wr)
    case atStart => exact ⟨0, Nat.zero_le _, rfl, own_nil _ _ _ _, Fr.refl _ _, rfl⟩
    case round =>
      obtain ⟨k, hk, rfl, hown, hfr, hm⟩ := hrel
      have HM := hide hm
      have HOWN := hide hown
      have hle := ordM_length raw k
      obtain ⟨A4, c4, rfl, -, -, -⟩ := own_slice hown
      clear hm hown
      by_cases hlt : k < min raw.length 7
      · have hk7 : (k : Int) < 7 := by omega
        have hkr : (k : Int) < (raw.length : Int) := by omega
        have hkr' : k < raw.length := by omega
        have hget : (raw.map (Value.int .i64))[k]? = some (.int .i64 (raw.getD k 0)) := by simp [hkr', List.getD_eq_getElem?_getD]
        obtain ⟨ob, oo, rfl, hc0⟩ := (HR.out.fr0 hfr).at_ hget
        clear hget
        have hos : ordM raw (k + 1) = (ordM raw k).take (umod (raw.getD k 0) (k + 1)) ++ k :: (ordM raw k).drop (umod (raw.getD k 0) (k + 1)) := rfl
        generalize raw.getD k 0 = x at hc0 hos
        generalize hq : umod x (k + 1) = q at hos
        have HOS := hide hos
        clear hos
        have hql : q < k + 1 := by rw [← hq]; exact umod_lt _ (by omega)
        have HQ := hide hq
        have HLE := hide hle
        clear hq hle
        go_wp2_with fail
        rw [show ((k : Int) + 1) = ((k + 1 : Nat) : Int) by omega]
        refine (mod_any _ (k + 1) _ (by omega) (by omega)).mono ?_
        rintro e w2 ⟨rfl, rfl⟩
        rw [HQ.out]
        go_upto_region 8 with (first
          | (at_builtin
             refine wpList_append_row _ rfl (.tmp 22) (.tmp 23) _ rfl w.heap.size 3 i0 (.int .i64 0) 1 8 Try.underlying22 HI.out.1 HI.out.2.1 HI.out.2.2.1 HI.out.2.2.2 rfl (by omega) (.slice A4 k c4) k ((ordM raw k).map nv) rfl
               (own_fr HOWN.out ((Fr.refl [] _).alloc _) (fun _ _ => by simp)) (some ⟨wr.heap.size, 0, none⟩) 1 1 [.int .i64 0] rfl rfl (row_lit _ _ _ rfl) (by intro u hu; simp at hu; subst hu; rfl) (by simp only [maxLen]; omega) (by omega) (by have := hfr.size; simp; omega) ?_
             intro v1 w4 hown4 hg4 hat4))
        have hf4 : Fr [] w w4 := (hfr.alloc _).grown hg4 (fun g e => .inr (own_block HOWN.out e).1)
        clear hg4 hat4
        rcases hown4.2 with ⟨-, h0⟩ | ⟨g, cap, cur, rfl, hbg, hblk, hcap, hcm, hcur, htk⟩
        · omega
        have hcl : cur.toList.length = cap := by rw [Array.length_toList, hcur]; omega
        have hcs : ∀ j u, ((ordM raw k).drop q |>.map nv)[j]? = some u → cur[q + j]? = some u := fun j u hu => by
          have h1 : cur.toList[q + j]? = some u := by
            have h2 : ((ordM raw k).map nv)[q + j]? = some u := by rw [← hu]; simp [List.getElem?_drop]
            have hl : q + j < k := by
              have := (List.getElem?_eq_some_iff.1 h2).1
              rw [List.length_map, HLE.out] at this
              exact this
            have h3 : (cur.toList.take ((k + 1) * 1))[q + j]? = some u := by
              rw [htk, List.getElem?_append_left (by rw [List.length_map, HLE.out]; exact hl)]
              exact h2
            rw [List.getElem?_take, if_pos (by omega)] at h3
            exact h3
          simpa using h1
        have HCS := hide hcs
        have HTK := hide htk
        have HBLK := hide hblk
        clear hcs htk hblk hown4 hcur
        have hqk : q ≤ k := by omega
        have hkc : k ≤ cap := by omega
        have t1 : ((q : Int) + 1).toNat = q + 1 := by omega
        have w1 : IntKind.i64.wrap ((q : Int) + 1) = (q : Int) + 1 := IntWalk.i64_in _ (by omega)
        have p1 : (0 : Int) ≤ (q : Int) + 1 := by omega
        have hcq0 : ¬ cap = q := by omega
        have hkq : ((ordM raw k).drop q |>.map nv).length = k - q := by rw [List.length_map, List.length_drop, HLE.out]
        have HKQ := hide hkq
        clear hkq
        go_region_held3 (fun _ => True) (exact trivial) ((refine step_copy_splice (by rfl) (.tmp 28) (.tmp 32) 22 22 (by rfl) 3 Try.underlying22 int_size _ _ _ _ _ _ (by rfl) (by rfl) g (q + 1) cur.toList 3 (by exact HBLK.out) ((ordM raw k).drop q |>.map nv) (by rw [HKQ.out]; exact (Nat.min_self _).symm) (fun h => ⟨by rw [if_neg (by rw [HKQ.out] at h; omega)], _, rfl, fun j v hj => by have hy := Blk.cell (w := w4) (g := g) (t := 3) (cs := cur) HBLK.out (q + j); rw [HCS.out j v hj] at hy; rw [addr_add]; simpa using hy⟩) (by rw [HKQ.out]; omega) (by intro v hv; obtain ⟨_, _, rfl⟩ := List.mem_map.1 hv; rfl) w.heap.size w (by exact hf4.below.drew) hbg ?_; intro w5 hg5 hb5))
        have hblk5 : Blk w5 g 3 (splice cur.toList (q + 1) ((ordM raw k).drop q |>.map nv)).toArray := hg5.out
        have hfr5 : Fr [] w w5 := Fr.of_below hb5
        have hlen5 : (splice cur.toList (q + 1) ((ordM raw k).drop q |>.map nv)).length = cap := by
          rw [length_splice _ _ _ (by rw [HKQ.out]; omega)]; exact hcl
        have hq0 : ∃ u, w5.cell? ⟨g, q, none⟩ = some u := by
          refine ⟨(splice cur.toList (q + 1) ((ordM raw k).drop q |>.map nv))[q]'(by rw [hlen5]; omega), ?_⟩
          rw [hblk5.cell q]
          simp
        obtain ⟨u0, hu0⟩ := hq0
        have hfz := hblk5.frozen q
        have HB5 := hide hblk5
        have HL5 := hide hlen5
        clear hg5 hb5 hblk5 hlen5 t1 w1 p1
        have hfin : w.heap.size ≤ g → (w5.setCell ⟨g, q, none⟩ (.int .i64 k)).ownsRow w.heap.size 3 1 (.slice (some ⟨g, 0, none⟩) (k + 1) cap) (k + 1) ((ordM raw (k + 1)).map nv) := fun hgg => by
          refine ⟨by rw [List.length_map, ordM_length]; omega, .inr ⟨g, cap, _, rfl, hgg, HB5.out.set_ q _, by omega, hcm, ?_, ?_⟩⟩
          · rw [Array.size_setIfInBounds, List.size_toArray, HL5.out]; omega
          · rw [HOS.out]
            exact ord_splice HKQ.out HLE.out hqk (by rw [hcl]; omega) HTK.out
        have HFIN := hide (hfin hbg)
        clear hfin
        by_cases hcq : cap = q + 1
        case' pos => subst hcq
        all_goals
          go_wp2
          go_roundg (min raw.length 7 - (k + 1))
          case measure => rw [HM.out]; omega
          case rel => exact ⟨k + 1, by omega, by go_num, HFIN.out, hfr5.set (.inr hbg) _, rfl⟩
      · have hkn : k = min raw.length 7 := by omega
        have HK := hide hkn
        have hx : (k : Int) = 7 ∨ (k : Int) = (raw.length : Int) := by omega
        clear hkn
        go_wp2
        go_ret
        have e : ordR raw = ordM raw k := by unfold ordR; rw [HK.out]
        rw [e, hle]
        exact ⟨_, rfl, HOWN.out, hfr⟩
end Go.Proofs.Ytgbkgiglagfciaa
