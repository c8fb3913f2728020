/- Walks: expire. -/
import Derived.Test.YtdocdgghphhdpaaRpmW1Mg
import Derived.Test.YtdocdgghphhdpaaMgRpInUse2
import Derived.Deep.Cut
namespace Go.Proofs.Ytdocdgghphhdpaa
open Go.RowKit

/-- The cells of an operation. -/
def poc (o : POp) : List Value := [nv o.dev, .bool o.res, uv o.tm]
theorem poc_len (o : POp) : (poc o).length = 3 := rfl
def pocs (l : List POp) : List Value := l.flatMap poc
theorem pocs_snoc (l : List POp) (o : POp) : pocs (l ++ [o]) = pocs l ++ [nv o.dev, .bool o.res, uv o.tm] := by simp [pocs, poc]
theorem pop_info : (Try.prog.info? 148).map (fun i => (i.zero, i.size, i.bytes)) = some (some (.agg #[.int .i64 0, .bool false, .int .u64 0]), 3, 24) := by kernel_rfl
theorem row_three (w : World) (t : TypeId) (a b c : Value) : Row (w.alloc (.cells #[a, b, c] t)) (some ⟨w.heap.size, 0, none⟩) [a, b, c] := row_lit w #[a, b, c] t rfl
section
variable {w : World} {P : ML} {M : RM} {s : RS}
theorem info_parts28 {A : Type} {a : A} {f : TypeInfo → A} {o : Option TypeInfo} (h : o.map f = some a) : ∃ i, o = some i ∧ f i = a := by
  cases o with
  | none => cases h
  | some i => exact ⟨i, rfl, by simpa using h⟩
def ExRet (w : World) (P : ML) (M : RM) (base : Nat) (R : RS × List POp) (e : Ending) (w' : World) : Prop :=
  ∃ v, e = .returned v ∧ MgIn w' P M R.1 ∧ SOk M R.1 ∧ w'.ownsRow base 148 3 v R.2.length (pocs R.2) ∧ FrM P base w w'
def ExRel (w : World) (P : ML) (M : RM) (lim base : Nat) (B : Nat) (R : RS × List POp) (m : Nat) (v : Value) (wr : World) : Prop :=
  ∃ s' ops, MgIn wr P M s' ∧ SOk M s' ∧ wr.ownsRow base 148 3 v ops.length (pocs ops) ∧ expK M lim m s' ops = R ∧ nAct M s' < m ∧ ops.length + nAct M s' ≤ B ∧ FrM P base w wr
def ExIn (w : World) (P : ML) (M : RM) (base : Nat) (l : List Nat) (t : Nat) (s0 : RS) (v : Value) (n : Nat) (xs : List Value) (m : Nat) (i : Value) (wr : World) : Prop :=
  ∃ j : Nat, j ≤ l.length ∧ i = .int .i64 (j : Int) ∧ MgIn wr P M ((l.take j).foldl (markS M t) s0) ∧ SOk M ((l.take j).foldl (markS M t) s0) ∧ wr.ownsRow base 148 3 v n xs ∧ FrM P base w wr ∧ m = l.length - j
theorem SOk.mark (h : SOk M s) {t x : Nat} (ht : t ≤ 1152921504606846976) : SOk M (markS M t s x) := by
  unfold markS
  split
  · exact ⟨fun i => by
      show setF s.sin x t i ≤ _
      unfold setF
      split
      · exact ht
      · exact h.sin i, h.use, h.clk⟩
  · exact h
theorem SOk.off (h : SOk M s) (d : Nat) : SOk M { s with act := setF s.act d false } := ⟨h.sin, h.use, h.clk⟩
theorem MgIn.row_own (h : MgIn w P M s) {base : Nat} {v : Value} {n : Nat} {xs : List Value} (ho : w.ownsRow base 148 3 v n xs) {p : Nat} (hp : p = P.b ∨ p = P.g) (y : Nat) (hy : v.ownBlock = some y) : y ≠ p := by
  obtain ⟨_, _, cs, hb⟩ := own_block ho hy
  rcases hp with rfl | rfl
  · exact Blk.ne_ hb h.blk (by decide)
  · exact Blk.ne_ hb h.row (by decide)
set_option maxHeartbeats 8000000 in
theorem expire28_any (h : MgIn w P M s) (hM : MOk M) (hs : SOk M s) {lim base : Nat} (hl : lim ≤ 1152921504606846976) (hbt : P.top ≤ base) (hbs : base ≤ w.heap.size) {A : Option Addr} {cp : Nat} {ops : List POp} (ho : w.ownsRow base 148 3 (.slice A ops.length cp) ops.length (pocs ops)) (hB : ops.length ≤ 100) :
    Calls Try.prog 84 #[.pointer (some ⟨P.b, 0, none⟩), uv lim, .slice A ops.length cp] w (ExRet w P M base (expM M lim s ops)) := by
  obtain ⟨i0, hi0, hi1⟩ := info_parts28 pop_info
  have HI : Hid (Try.prog.info? 148 = some i0 ∧ i0.zero = some (.agg #[.int .i64 0, .bool false, .int .u64 0]) ∧ i0.size = 3 ∧ i0.bytes = 24) := hide (by
    simp at hi1
    exact ⟨hi0, hi1⟩)
  have hn := hM.n
  have HMO := hide hM
  have HST : Hid (ExRel w P M lim base 200 (expM M lim s ops) (M.n + 1) (.slice A ops.length cp) w) := hide ⟨s, ops, h, hs, ho, rfl, by have := nAct_le M s; omega, by have := nAct_le M s; omega, FrM.refl _ _ _⟩
  generalize expM M lim s ops = R at HST ⊢
  clear h hs ho hi0 hi1 hM
  go_enter Try.func84, Try.ntmps84
  go_wp2
  go_loopg [2] (M.n + 1) (fun m v wr => ExRel w P M lim base 200 R m v wr)
  case atStart => exact HST.out
  case round =>
    clear HST
    obtain ⟨s', ops', hin, hso, hown, hexp, hna, hB2, hfm⟩ := hrel
    obtain ⟨A2, c2, rfl, -, -, -⟩ := own_slice hown
    have HIN := hide hin
    have HSO := hide hso
    have HOWN := hide hown
    have HEXP := hide hexp
    clear hin hso hown hexp
    obtain ⟨q, hq⟩ : ∃ q, gk = q + 1 := ⟨gk - 1, by omega⟩
    have HQ := hide hq
    clear hq
    go_wp2_with fail
    refine (first28_any HIN.out HMO.out HSO.out).mono ?_
    rintro e w1 ⟨rfl, hf1⟩
    have hfm1 := hfm.call hf1
    have hol := hB2
    cases hfs : fstM M s' with
    | none =>
      have HR : Hid (R = (s', ops')) := hide (by rw [← HEXP.out, HQ.out]; unfold expK; rw [hfs])
      rw [show optI28 none = -1 from rfl]
      clear hfs
      go_wp2
      go_ret
      exact ⟨_, rfl, by rw [HR.out]; exact HIN.out.fr0 hf1, by rw [HR.out]; exact HSO.out, by rw [HR.out]; exact own_fr HOWN.out hf1 (fun _ _ => by simp), hfm1⟩
    | some d =>
      rw [show optI28 (some d) = (d : Int) from rfl]
      obtain ⟨hdn, hidl, -⟩ := fstTo_some hfs
      have HEX : Hid (expK M lim (q + 1) s' ops' = if lim < exy M s' d then (s', ops') else expK M lim q (offS M s' d) (ops' ++ [⟨d, false, exy M s' d⟩])) := hide (by
        show (match fstM M s' with | none => _ | some d => _) = _
        rw [hfs])
      have hnd : nAct M (offS M s' d) < nAct M s' := nAct_off hdn (idl_act hidl)
      have hd0 : ¬ (d : Int) < 0 := by omega
      have hdi : (d : Int) < (M.n : Int) := by omega
      clear hfs hidl
      go_wp2_with fail
      refine (expiry28_any (HIN.out.fr0 hf1) HMO.out HSO.out hdn).mono ?_
      rintro e w2 ⟨rfl, hf2⟩
      have hf02 := hf1.call hf2
      by_cases hx : lim < exy M s' d
      · have hx' : (lim : Int) < (exy M s' d : Int) := by omega
        have HR : Hid (R = (s', ops')) := hide (by rw [← HEXP.out, HQ.out, HEX.out, if_pos hx])
        clear hx
        go_wp2
        go_ret
        exact ⟨_, rfl, by rw [HR.out]; exact HIN.out.fr0 hf02, by rw [HR.out]; exact HSO.out, by rw [HR.out]; exact own_fr HOWN.out hf02 (fun _ _ => by simp), hfm.call hf02⟩
      · have hx' : ¬ (lim : Int) < (exy M s' d : Int) := by omega
        have HR : Hid (expK M lim q (offS M s' d) (ops' ++ [⟨d, false, exy M s' d⟩]) = R) := hide (by rw [← HEXP.out, HQ.out, HEX.out, if_neg hx])
        have hxl : exy M s' d ≤ lim := by omega
        clear hx HEX HEXP
        go_wp2_with fail
        refine (expiry28_any (HIN.out.fr0 hf02) HMO.out HSO.out hdn).mono ?_
        rintro e w3 ⟨rfl, hf3⟩
        have hf03 := hf02.call hf3
        have hin3 := HIN.out.fr0 hf03
        have c0 : w3.cell? ⟨P.b, 0, none⟩ = some (.slice (some ⟨P.g, 0, none⟩) M.n P.cg) := hin3.blk.cell 0
        have c3 : w3.cell? ⟨P.g, d * 6 + 3, none⟩ = some (.bool (s'.act d)) := hin3.cell hdn (by omega)
        have f3 := hin3.frozen (d * 6 + 3)
        have hin4 := hin3.put (stvs_act P.S P.C M s' hdn false) rfl
        have hown3 := own_fr HOWN.out hf03 (fun _ _ => by simp)
        have hown4 := own_fr hown3 ((Fr.refl [P.g] w3).set (p := ⟨P.g, d * 6 + 3, none⟩) (.inl (by simp)) (.bool false)) (fun y hy hm => hin3.row_own hown3 (.inr rfl) y hy (List.mem_singleton.1 hm))
        have hfm4 := (hfm.call hf03).set (p := ⟨P.g, d * 6 + 3, none⟩) (.inr (.inl rfl)) (.bool false)
        have HIN4 := hide hin4
        have HOWN4 := hide hown4
        clear hin4 hown4 hin3 hown3
        go_upto_region 6 with (fail)
        clear c0 c3 f3
        generalize w3.setCell ⟨P.g, d * 6 + 3, none⟩ (.bool false) = w4 at HIN4 HOWN4 hfm4 ⊢
        have hs4 : base ≤ w4.heap.size + 1 := by have := hfm4.size; omega
        obtain ⟨tm, htm⟩ : ∃ tm, tm = exy M s' d := ⟨_, rfl⟩
        rw [← htm] at HR hxl ⊢
        have HTM := hide htm
        clear htm hx'
        go_upto_region 7 with (first
          | (at_builtin
             refine wpList_append_row _ rfl (.tmp 33) (.tmp 37) _ rfl base 148 i0 (.agg #[.int .i64 0, .bool false, .int .u64 0]) 3 24 Try.underlying96 HI.out.1 HI.out.2.1 HI.out.2.2.1 HI.out.2.2.2 rfl (by omega) (.slice A2 ops'.length c2) ops'.length (pocs ops') rfl
               (own_fr HOWN4.out ((Fr.refl [] _).alloc _) (fun _ _ => by simp)) (some ⟨w4.heap.size, 0, none⟩) 1 1 [.int .i64 (d : Int), .bool false, .int .u64 (tm : Int)] rfl rfl (row_three w4 _ _ _ _) (by intro u hu; simp at hu; rcases hu with rfl | rfl | rfl <;> rfl) (by simp only [maxLen]; omega) (by omega) (by simpa using hs4) ?_
             intro v1 w5 hown5 hg5 hat5))
        obtain ⟨A5, c5, rfl, -, -, -⟩ := own_slice hown5
        have hf45 : Fr (Value.slice A2 ops'.length c2).ownBlock.toList w4 w5 := ((Fr.refl _ w4).alloc _).trans (Fr.of_grown hg5)
        have HOB : Hid (∀ y ∈ (Value.slice A2 ops'.length c2).ownBlock.toList, base ≤ y) := hide (fun y hy => (own_block HOWN4.out (by simpa using hy)).1)
        have HIN5 := hide (HIN4.out.fr hf45 (fun y hy => Nat.le_trans hbt (HOB.out y hy)))
        have HOWN5 := hide hown5
        have hfm5 : FrM P base w w5 := hfm4.trans ⟨_, fun y hy => .inr (.inr (HOB.out y hy)), hf45⟩
        have HS5 : Hid (SOk M { s' with act := setF s'.act d false }) := hide (HSO.out.off d)
        have HOFF : Hid (offS M s' d = (supL M.L d).foldl (markS M tm) { s' with act := setF s'.act d false }) := hide (by rw [HTM.out]; rfl)
        have HSL : Hid (∀ x ∈ supL M.L d, x < M.n) := hide (fun x hx => (HMO.out.L _ (mem_supL.1 hx)).2)
        have hsl : (supL M.L d).length ≤ 1024 := Nat.le_trans (supL_len _ _) HMO.out.len
        clear hown5 hg5 hat5 hf45 HIN4 HOWN4 hfm4 HOB hs4
        obtain ⟨As, cs, es, hrs, -⟩ := HIN5.out.sup d hdn
        have c0 : w5.cell? ⟨P.b, 0, none⟩ = some (.slice (some ⟨P.g, 0, none⟩) M.n P.cg) := HIN5.out.blk.cell 0
        have d0 : w5.cell? ⟨P.g, d * 6, none⟩ = some (.slice As (supL M.L d).length cs) := by rw [← es]; exact HIN5.out.cell (j := 0) hdn (by omega)
        clear es hrs
        have HES : Hid (∃ As' cs', Value.slice As (supL M.L d).length cs = .slice As' (supL M.L d).length cs') := hide ⟨_, _, rfl⟩
        have HPS : Hid (P.S d = .slice As (supL M.L d).length cs) := hide (by
          obtain ⟨A', c', e', -⟩ := HIN5.out.sup d hdn
          have h1 := HIN5.out.cell (j := 0) hdn (by omega)
          rw [show (stv P.S P.C M { s' with act := setF s'.act d false } d)[0]? = some (P.S d) from rfl] at h1
          rw [show d * 6 + 0 = d * 6 from rfl, d0] at h1
          injection h1 with h1
          exact h1.symm)
        generalize hl0 : supL M.L d = l0 at HOFF HSL hsl d0 HPS ⊢
        have HL0 := hide hl0
        generalize hs0 : ({ s' with act := setF s'.act d false } : RS) = s0 at HIN5 HS5 HOFF
        clear hs0 HES hl0
        go_wp2
        clear d0 c0
        go_loopg [48] l0.length (fun m i wr => ExIn w P M base l0 tm s0 (.slice A5 (ops'.length + 1) c5) (ops'.length + 1) (pocs ops' ++ [.int .i64 (d : Int), .bool false, .int .u64 (tm : Int)]) m i wr)
        case atStart => exact ⟨0, by omega, rfl, HIN5.out, HS5.out, HOWN5.out, hfm5, rfl⟩
        case round =>
          obtain ⟨j, hj, rfl, hin, hso, hown, hfmj, hmm⟩ := hrel
          have HMM := hide hmm
          have HINj := hide hin
          have HSOj := hide hso
          have HOWNj := hide hown
          clear hmm hin hso hown HIN5 HOWN5 hfm5
          by_cases hlt : j < l0.length
          · obtain ⟨x, hx⟩ : ∃ x, l0[j]? = some x := ⟨_, List.getElem?_eq_getElem hlt⟩
            have hxn : x < M.n := HSL.out x (List.mem_of_getElem? hx)
            have HTK : Hid ((l0.take (j + 1)).foldl (markS M tm) s0 = markS M tm ((l0.take j).foldl (markS M tm) s0) x) := hide (by
              obtain ⟨h1, h2⟩ := List.getElem?_eq_some_iff.1 hx
              rw [List.take_succ_eq_append_getElem h1, h2, List.foldl_append]
              rfl)
            obtain ⟨A', c', e', hrs, -⟩ := HINj.out.sup d hdn
            rw [HL0.out] at e' hrs
            rw [HPS.out] at e'
            injection e' with e1 e2 e3
            subst e1
            obtain ⟨ob, oo, rfl, q1⟩ := hrs.at_ (i := j) (u := nv x) (by rw [List.getElem?_map, hx]; rfl)
            have hjl : (j : Int) < (l0.length : Int) := by omega
            clear hx hrs e2 e3
            generalize (l0.take j).foldl (markS M tm) s0 = sj at HINj HSOj HTK
            go_wp2_with fail
            refine (idle28_any HINj.out HMO.out hxn).mono ?_
            rintro e w6 ⟨rfl, hf6⟩
            have hin6 := HINj.out.fr0 hf6
            have hown6 := own_fr HOWNj.out hf6 (fun _ _ => by simp)
            cases hid : idl M sj x with
            | false =>
              have HE : Hid (markS M tm sj x = sj) := hide (by unfold markS; rw [if_neg (by rw [hid]; decide)])
              have HI6 := hide hin6
              have HO6 := hide hown6
              clear hid hin6 hown6
              go_wp2
              go_roundg (l0.length - (j + 1))
              case measure => rw [HMM.out]; omega
              case rel => exact ⟨j + 1, by omega, by go_num, by rw [HTK.out, HE.out]; exact HI6.out, by rw [HTK.out, HE.out]; exact HSOj.out, HO6.out, hfmj.call hf6, rfl⟩
            | true =>
              have HE : Hid (markS M tm sj x = { sj with sin := setF sj.sin x tm }) := hide (by unfold markS; rw [if_pos hid])
              have c0 : w6.cell? ⟨P.b, 0, none⟩ = some (.slice (some ⟨P.g, 0, none⟩) M.n P.cg) := hin6.blk.cell 0
              have c5' : w6.cell? ⟨P.g, x * 6 + 5, none⟩ = some (.int .u64 (sj.sin x : Int)) := hin6.cell hxn (by omega)
              have f5 := hin6.frozen (x * 6 + 5)
              have HI7 := hide (hin6.put (stvs_sin P.S P.C M sj hxn tm) rfl)
              have HO7 := hide (own_fr hown6 ((Fr.refl [P.g] w6).set (p := ⟨P.g, x * 6 + 5, none⟩) (.inl (by simp)) (uv tm)) (fun y hy hm => hin6.row_own hown6 (.inr rfl) y hy (List.mem_singleton.1 hm)))
              have hxi : (x : Int) < (M.n : Int) := by omega
              clear hid hin6 hown6
              go_wp2
              go_roundg (l0.length - (j + 1))
              case measure => rw [HMM.out]; omega
              case rel => exact ⟨j + 1, by omega, by go_num, by rw [HTK.out, HE.out]; exact HI7.out, by rw [HTK.out]; exact HSOj.out.mark (by omega), HO7.out, (hfmj.call hf6).set (.inr (.inl rfl)) _, rfl⟩
          · have hjl : ¬ (j : Int) < (l0.length : Int) := by omega
            rw [List.take_of_length_le (by omega)] at HINj HSOj
            rw [← HOFF.out] at HINj HSOj
            go_wp2
            go_roundg q
            case measure => rw [HQ.out]; omega
            case rel =>
              refine ⟨offS M s' d, ops' ++ [⟨d, false, tm⟩], HINj.out, HSOj.out, ?_, HR.out, by have := HQ.out; omega, by rw [List.length_append, List.length_singleton]; omega, hfmj⟩
              rw [List.length_append, List.length_singleton, pocs_snoc]
              exact HOWNj.out
end
end Go.Proofs.Ytdocdgghphhdpaa

