/- Walks: the law's Some. -/
import Derived.Test.YtdocdgghphhdpaaDevW10Mg
import Derived.Test.YtdocdgghphhdpaaMgDeviceTree6
import Derived.IntWalk
import Derived.Deep.DeepCutAuto
namespace Go.Proofs.Ytdocdgghphhdpaa
open Go.RowKit

theorem mod_int (v m : Int) (w : World) (h0 : 0 < m) (h1 : m ≤ 4096) :
    Calls Try.prog 24 #[.int .i64 v, .int .i64 m] w fun e w' => e = .returned (.int .i64 (umod v m.toNat)) ∧ w = w' := by
  obtain ⟨k, rfl⟩ := Int.eq_ofNat_of_zero_le (show 0 ≤ m by omega)
  exact mod_any v k w (by omega) (by omega)
theorem mod_still (v m : Int) (w : World) (h0 : 0 < m) (h1 : m ≤ 4096) :
    Calls Try.prog 24 #[.int .i64 v, .int .i64 m] w fun e w' => e = .returned (.int .i64 (umod v m.toNat)) ∧ w' = w := (mod_int v m w h0 h1).mono fun _ _ ⟨h, k⟩ => ⟨h, k.symm⟩
def dfM (f : Nat → Int) : Nat → Int
  | 0 => 0
  | k + 1 => max (dfM f k) (umod (f (k + 1)) 5 : Int)
def someP (r : DV) (i : Nat) (rf : Nat → Value) : PD := { par := (umod r.d.par (i + 1) : Int) - 1, rf := rf, df := dfM r.d.df, wd := (umod r.d.wd 4 : Int), ws := (umod r.d.ws 5 : Int) }
def someRl (r : DV) (n : Nat) (k : Nat) : List Int := if k < 4 ∧ 0 < n then ascL (r.rl k) n else []
def SomeTo (raw out : List DV) (n k : Nat) : Prop := out.length = k ∧ ∀ i r, i < k → raw[i]? = some r → ∃ rf, out[i]? = some ⟨someP r i rf, someRl r n⟩
theorem SomeTo.snoc {raw out : List DV} {n k : Nat} {r : DV} {rf : Nat → Value} (h : SomeTo raw out n k) (hr : raw[k]? = some r) : SomeTo raw (out ++ [⟨someP r k rf, someRl r n⟩]) n (k + 1) := by
  refine ⟨by rw [List.length_append, h.1]; rfl, fun i s hi hs => ?_⟩
  by_cases e : i = k
  · subst e
    rw [hr] at hs
    injection hs with hs
    subst hs
    exact ⟨rf, by rw [List.getElem?_append_right (by rw [h.1]; omega), h.1]; simp⟩
  · obtain ⟨g, hg⟩ := h.2 i s (by omega) hs
    exact ⟨g, by rw [List.getElem?_append_left (by rw [h.1]; omega)]; exact hg⟩
def OwnRails (w : World) (base : Nat) (d : PD) (rl : Nat → List Int) : Prop := ∀ k, k < 4 → w.ownsRow base 3 1 (d.rf k) (rl k).length ((rl k).map (Value.int .i64))
theorem OwnRails.at_ {w : World} {base : Nat} {d : PD} {rl : Nat → List Int} (h : OwnRails w base d rl) : RailsAt w d rl := fun k hk => by
  obtain ⟨A, cp, e, -, hr, -⟩ := own_slice (h k hk)
  exact ⟨A, cp, e, hr⟩
def SomeRet (w : World) (raw : List DV) (n : Nat) (e : Ending) (w' : World) : Prop :=
  ∃ v out, e = .returned v ∧ w'.ownsRow w.heap.size 46 13 v out.length (dvcs out) ∧ (∀ x ∈ out, OwnRails w' w.heap.size x.d x.rl) ∧ SomeTo raw out n (min raw.length 6) ∧ Fr [] w w'
def some0 (r : DV) (i : Nat) : PD := { par := (umod r.d.par (i + 1) : Int) - 1, rf := fun _ => .slice none 0 0, df := fun _ => 0, wd := (umod r.d.wd 4 : Int), ws := (umod r.d.ws 5 : Int) }
def SoCut (wr : World) (r : DV) (k : Nat) (s7 : Value) (wx : World) : Prop := s7 = .pointer (some ⟨wr.heap.size, 0, none⟩) ∧ Blk wx wr.heap.size 46 (some0 r k).cells ∧ Fr [] wr wx
def SoRel (w : World) (raw : List DV) (n m : Nat) (v i : Value) (wr : World) : Prop :=
  ∃ k out, k ≤ raw.length ∧ k ≤ 6 ∧ i = .int .i64 (k : Int) ∧ wr.ownsRow w.heap.size 46 13 v out.length (dvcs out) ∧ (∀ x ∈ out, OwnRails wr w.heap.size x.d x.rl) ∧ SomeTo raw out n k ∧ Fr [] w wr ∧ m = 6 - k
def soP (r : DV) (i : Nat) (rf : Nat → Value) (df : Nat → Int) : PD := { par := (umod r.d.par (i + 1) : Int) - 1, rf := rf, df := df, wd := (umod r.d.wd 4 : Int), ws := (umod r.d.ws 5 : Int) }
def upd {α : Type} (f : Nat → α) (j : Nat) (v : α) (q : Nat) : α := if q = j then v else f q
theorem soP_setR (r : DV) (k : Nat) (rf : Nat → Value) (df : Nat → Int) {j : Nat} (hj : j < 4) (v : Value) : (soP r k rf df).cells.setIfInBounds (1 + j) v = (soP r k (upd rf j v) df).cells := by
  have : j = 0 ∨ j = 1 ∨ j = 2 ∨ j = 3 := by omega
  rcases this with rfl | rfl | rfl | rfl <;> rfl
theorem soP_setD (r : DV) (k : Nat) (rf : Nat → Value) (df : Nat → Int) {j : Nat} (hj : j < 6) (x : Int) : (soP r k rf df).cells.setIfInBounds (5 + j) (.int .i64 x) = (soP r k rf (upd df j x)).cells := by
  have : j = 0 ∨ j = 1 ∨ j = 2 ∨ j = 3 ∨ j = 4 ∨ j = 5 := by omega
  rcases this with rfl | rfl | rfl | rfl | rfl | rfl <;> rfl
theorem soP_congr (r : DV) (k : Nat) (rf : Nat → Value) {df df' : Nat → Int} (h : ∀ q, q < 6 → df q = df' q) : (soP r k rf df).cells = (soP r k rf df').cells := by
  simp only [PD.cells, soP, h 0 (by omega), h 1 (by omega), h 2 (by omega), h 3 (by omega), h 4 (by omega), h 5 (by omega)]
def rlTo (r : DV) (n j q : Nat) : List Int := if q < j ∧ 0 < n then ascL (r.rl q) n else []
def dfTo (r : DV) (j q : Nat) : Int := if q < j then dfM r.d.df q else 0
def So2 (wc : World) (g : Nat) (r : DV) (k n m : Nat) (i : Value) (wr : World) : Prop :=
  ∃ (j : Nat) (rf : Nat → Value), j ≤ 4 ∧ i = .int .i64 (j : Int) ∧ Blk wr g 46 (soP r k rf (dfTo r 1)).cells ∧ (∀ q, q < 4 → wr.ownsRow (g + 1) 3 1 (rf q) (rlTo r n j q).length ((rlTo r n j q).map (Value.int .i64))) ∧ Fr [g] wc wr ∧ m = 4 - j
def So3 (wc : World) (g : Nat) (r : DV) (k : Nat) (rf : Nat → Value) (m : Nat) (i : Value) (wr : World) : Prop :=
  ∃ j : Nat, 1 ≤ j ∧ j ≤ 6 ∧ i = .int .i64 (j : Int) ∧ Blk wr g 46 (soP r k rf (dfTo r j)).cells ∧ Fr [g] wc wr ∧ m = 6 - j
theorem DvsAt.rail {w : World} {A : Option Addr} {l : List DV} (h : DvsAt w A l) {i : Nat} {x : DV} (hx : l[i]? = some x) {j : Nat} (hj : j < 4) : ∃ ob oo A' cp, A = some ⟨ob, oo, none⟩ ∧ w.cell? ⟨ob, oo + i * 13 + 1 + j, none⟩ = some (.slice A' (x.rl j).length cp) ∧ Row w A' ((x.rl j).map (Value.int .i64)) := by
  obtain ⟨ob, oo, e, hc⟩ := Row.el (f := dvc) dvc_len (by omega) h.1 hx
  obtain ⟨A', cp, e2, hr⟩ := h.2 x (List.mem_of_getElem? hx) j hj
  refine ⟨ob, oo, A', cp, e, ?_, hr⟩
  rw [Nat.add_assoc, ← e2]
  exact hc (1 + j) _ (by have := x.d.rail hj; simpa [dvc] using this)
theorem DvsAt.deep {w : World} {A : Option Addr} {l : List DV} (h : DvsAt w A l) {i : Nat} {x : DV} (hx : l[i]? = some x) {j : Nat} (hj : j < 6) : ∃ ob oo, A = some ⟨ob, oo, none⟩ ∧ w.cell? ⟨ob, oo + i * 13 + 5 + j, none⟩ = some (.int .i64 (x.d.df j)) := by
  obtain ⟨ob, oo, e, hc⟩ := Row.el (f := dvc) dvc_len (by omega) h.1 hx
  refine ⟨ob, oo, e, ?_⟩
  rw [Nat.add_assoc]
  exact hc (5 + j) _ (by have := x.d.deep hj; simpa [dvc] using this)
theorem pd_info : (Try.prog.info? 46).map (fun i => (i.zero, i.size, i.bytes)) = some (some (.agg #[.int .i64 0, .slice none 0 0, .slice none 0 0, .slice none 0 0, .slice none 0 0, .int .i64 0, .int .i64 0, .int .i64 0, .int .i64 0, .int .i64 0, .int .i64 0, .int .i64 0, .int .i64 0]), 13, 168) := by kernel_rfl
set_option maxHeartbeats 8000000 in
set_option maxRecDepth 100000 in
theorem some27_any (A : Option Addr) (cp : Nat) (raw : List DV) (n : Nat) (w : World) (hr : DvsAt w A raw) (hl : raw.length ≤ maxLen) (hm : ∀ x ∈ raw, ∀ k, (x.rl k).length ≤ maxLen) (hn : n ≤ 4096) :
    Calls Try.prog 17 #[.slice A raw.length cp, .int .i64 (n : Int)] w (SomeRet w raw n) := by
  unfold maxLen at hl
  have HR := hide hr
  have HMX := hide hm
  obtain ⟨i0, hi0, hz0, hz1, hz2⟩ := info_parts pd_info
  have HI := hide (And.intro hi0 (And.intro hz0 (And.intro hz1 hz2)))
  clear hr hm hi0 hz0 hz1 hz2
  go_enter Try.func17, Try.ntmps17
  go_wp2
  go_loopg [5, 6] 6 (fun m v i wr => SoRel w raw n m v i wr)
  case atStart => exact ⟨0, [], by omega, by omega, rfl, own_nil _ _ _ _, (fun x hx => by cases hx), ⟨rfl, fun i r hi => by omega⟩, Fr.refl _ _, rfl⟩
  case round =>
    obtain ⟨k, out, hk, hk6, rfl, hown, hra, hso, hfr, hmm⟩ := hrel
    have HM := hide hmm
    have HOWN := hide hown
    have HRA := hide hra
    have HSO := hide hso
    obtain ⟨A5, c5, rfl, -, -, -⟩ := own_slice hown
    clear hmm hown hra hso
    by_cases hlt : k < raw.length
    · by_cases hlt6 : k < 6
      · obtain ⟨r, hx⟩ : ∃ r, raw[k]? = some r := ⟨_, List.getElem?_eq_getElem hlt⟩
        obtain ⟨ob, oo, rfl, c0, c1, c2, c3, c4, c5', c6, c7, c8, c9, c10, c11, c12⟩ := (HR.out.fr0 hfr).el hx
        have hkl : (k : Int) < (raw.length : Int) := by omega
        have hk6' : (k : Int) < 6 := by omega
        obtain ⟨k1, hk1⟩ : ∃ k1, k1 = k + 1 := ⟨_, rfl⟩
        have hw1 : IntKind.i64.wrap ((k : Int) + 1) = (k1 : Int) := by rw [IntWalk.i64_in _ (by omega)]; omega
        have hk1a : 0 < k1 := by omega
        have hk1b : k1 ≤ 4096 := by omega
        have hw2 : IntKind.i64.wrap ((umod r.d.par k1 : Int) - 1) = (umod r.d.par k1 : Int) - 1 := IntWalk.i64_in _ (by have := umod_lt r.d.par hk1a; omega)
        go_upto_region 5 with (fail)
        go_cut [7] (fun s7 wx => SoCut wr r k s7 wx)
        case first =>
          go_region_held3 (fun w' => w'.cell? ⟨ob, oo + k * 13, none⟩ = some (.int .i64 r.d.par) ∧ w'.cell? ⟨ob, oo + k * 13 + 11, none⟩ = some (.int .i64 r.d.wd) ∧ w'.cell? ⟨ob, oo + k * 13 + 12, none⟩ = some (.int .i64 r.d.ws)) (go_keep) (first | (go_at_call 24; refine (mod_int _ _ _ (by omega) (by omega)).mono ?_; rintro e w' ⟨rfl, rfl⟩))
          all_goals
            go_wp2_with fail
            go_meet
            refine ⟨rfl, ?_, ?_⟩
            · refine Blk.fr (S := []) (w := wr.alloc (.cells (some0 r k).cells 46)) (Blk.new wr _ _) ?_ (by simp)
              have hpar : (IntKind.i64.wrap ((umod r.d.par (k + 1) : Int) - 1)) = (umod r.d.par (k + 1) : Int) - 1 := IntWalk.i64_in _ (by have := umod_lt r.d.par (show 0 < k + 1 by omega); omega)
              simp only [hpar]
              exact (Fr.refl _ _).drew
            · exact ((Fr.refl _ _).alloc _).drew
        case rest =>
          obtain ⟨rfl, hblk, hfx⟩ := hcut
          have HX := hide hx
          have HOWN2 := hide (own_fr HOWN.out hfx (fun _ _ => by simp))
          have HOB := hide (fun b hb => (own_block HOWN.out (g := b) hb).2.1)
          have HRA2 : Hid (∀ x ∈ out, ∀ q, q < 4 → wc.ownsRow w.heap.size 3 1 (x.d.rf q) (x.rl q).length ((x.rl q).map (Value.int .i64)) ∧ ∀ b, (x.d.rf q).ownBlock = some b → b < wr.heap.size) := hide (fun x hx q hq => ⟨own_fr (HRA.out x hx q hq) hfx (fun _ _ => by simp), fun b hb => (own_block (HRA.out x hx q hq) hb).2.1⟩)
          have hgb := hfr.size
          have hgs := hblk.lt
          have hfc := hfr.call hfx
          have hblk' : Blk wc wr.heap.size 46 (soP r k (fun _ => .slice none 0 0) (dfTo r 1)).cells := by
            have e : (soP r k (fun _ => .slice none 0 0) (dfTo r 1)).cells = (some0 r k).cells := soP_congr r k _ (df' := fun _ => 0) (fun q hq => by unfold dfTo; split; rw [show q = 0 by omega]; rfl; rfl)
            rw [e]
            exact hblk
          clear HOWN HRA hblk hx c0 c1 c2 c3 c4 c5' c6 c7 c8 c9 c10 c11 c12 hw1 hw2 hk1 hk1a hk1b k1 hfx hfr
          generalize wr.heap.size = g at hgb hgs hblk' HOB HRA2 ⊢
          clear wr
          have HBK := hide hblk'
          clear hblk'
          go_wp2
          go_loopg [8] 4 (fun m i wr => So2 wc g r k n m i wr)
          case atStart => exact ⟨0, _, by omega, rfl, HBK.out, fun q hq => by simp only [rlTo, Nat.not_lt_zero, false_and, if_false]; exact own_nil _ _ _ _, Fr.refl _ _, rfl⟩
          case round =>
            obtain ⟨j, rf, hj, rfl, hblk, hrow, hf2, hmm⟩ := hrel
            have HM2 := hide hmm
            have HROW := hide hrow
            have hfw : Fr [] w wr := hfc.step hf2 (fun i hi => .inr (by rw [List.mem_singleton.1 hi]; exact hgb))
            clear hmm hrow
            by_cases hj4 : j < 4 ∧ 0 < n
            · obtain ⟨hj4, hn0⟩ := hj4
              obtain ⟨ob2, oo2, A', cp', eA, cR, rowR⟩ := (HR.out.fr0 hfw).rail HX.out hj4
              obtain ⟨rfl, rfl⟩ : ob = ob2 ∧ oo = oo2 := by injection eA with eA; injection eA with e1 e2; exact ⟨e1, e2⟩
              have HRR := hide rowR
              have hji : (j : Int) < 4 := by omega
              have hni : (0 : Int) < (n : Int) := by omega
              have HBK2 := hide hblk
              clear rowR eA hblk
              go_wp2_with fail
              refine (lasc_any A' cp' (r.rl j) n wr HRR.out (HMX.out r (List.mem_of_getElem? HX.out) j) hn).mono ?_
              rintro e w3 ⟨v, rfl, hov, hf3⟩
              obtain ⟨Av, cv, rfl, -, -, -⟩ := own_slice hov
              have hgr := HBK2.out.lt
              have HBK3 := hide (HBK2.out.fr hf3 (by simp))
              have cs : w3.cell? ⟨g, 1 + j, none⟩ = some (rf j) := (HBK3.out.cell (1 + j)).trans (PD.rail (soP r k rf (dfTo r 1)) hj4)
              have fs : w3.frozen? ⟨g, 1 + j, none⟩ = false := HBK3.out.frozen (1 + j)
              have HOV := hide hov
              clear hov cR
              go_wp2
              go_roundg (4 - (j + 1))
              case measure => rw [HM2.out]; omega
              case rel =>
                refine ⟨j + 1, upd rf j (.slice Av (ascL (r.rl j) n).length cv), by omega, by go_num, ?_, ?_, ?_, rfl⟩
                · rw [← soP_setR r k rf (dfTo r 1) hj4]
                  exact HBK3.out.set_ _ _
                · intro q hq
                  by_cases e : q = j
                  · subst e
                    simp only [rlTo, upd, if_pos, show q < q + 1 ∧ 0 < n from ⟨by omega, hn0⟩, and_self]
                    refine own_fr (own_base HOV.out (by omega)) ((Fr.refl [g] _).set (.inl (by simp)) _) (fun b hb hm => ?_)
                    have := (own_block HOV.out hb).1
                    have := List.mem_singleton.1 hm
                    omega
                  · have e1 : rlTo r n (j + 1) q = rlTo r n j q := by
                      unfold rlTo
                      by_cases h : q < j
                      · simp [h, show q < j + 1 by omega]
                      · simp [h, show ¬ q < j + 1 by omega]
                    have e2 : upd rf j (.slice Av (ascL (r.rl j) n).length cv) q = rf q := if_neg e
                    rw [e1, e2]
                    refine own_fr (own_fr (HROW.out q hq) hf3 (fun _ _ => by simp)) ((Fr.refl [g] _).set (.inl (by simp)) _) (fun b hb hm => ?_)
                    have := (own_block (HROW.out q hq) hb).1
                    have := List.mem_singleton.1 hm
                    omega
                · exact (hf2.call hf3).set (.inl (by simp)) _
            · have HRL : Hid (∀ q, q < 4 → rlTo r n j q = someRl r n q) := hide (fun q hq => by
                unfold rlTo someRl
                by_cases h0 : 0 < n
                · have : j = 4 := by omega
                  subst this
                  rfl
                · simp [h0])
              have HRO : Hid (∀ q, q < 4 → wr.ownsRow (g + 1) 3 1 (rf q) (someRl r n q).length ((someRl r n q).map (Value.int .i64))) := hide (fun q hq => by
                have := HROW.out q hq
                rw [HRL.out q hq] at this
                exact this)
              have HBK2 := hide hblk
              obtain ⟨w2, hw2⟩ : ∃ w2, w2 = wr := ⟨_, rfl⟩
              subst hw2
              clear HRL HROW hblk
              rcases (show (¬ (j : Int) < 4) ∨ ((j : Int) < 4 ∧ ¬ (0 : Int) < (n : Int)) by omega) with hex | ⟨hex, hex2⟩
              all_goals
                clear hj4
                go_wp2
                go_loopg [9] 5 (fun m i wr => So3 w2 g r k rf m i wr)
                case atStart => exact ⟨1, by omega, by omega, rfl, HBK2.out, Fr.refl _ _, rfl⟩
                case round =>
                  clear hex
                  obtain ⟨t, ht1, ht6, rfl, hblk, hf3, hmm⟩ := hrel
                  have HM3 := hide hmm
                  have hfw3 : Fr [] w wr := hfw.step hf3 (fun i hi => .inr (by rw [List.mem_singleton.1 hi]; exact hgb))
                  clear hmm
                  by_cases hlt : t < 6
                  · obtain ⟨ob2, oo2, eA, cR⟩ := (HR.out.fr0 hfw3).deep HX.out hlt
                    obtain ⟨rfl, rfl⟩ : ob = ob2 ∧ oo = oo2 := by injection eA with eA; injection eA with e1 e2; exact ⟨e1, e2⟩
                    have HRW : Hid (w.cell? ⟨ob, oo + k * 13 + 5 + t, none⟩ = some (.int .i64 (r.d.df t))) := hide (by
                      obtain ⟨o1, o2, eB, cB⟩ := HR.out.deep HX.out hlt
                      injection eB with eB
                      injection eB with e1 e2
                      subst e1 e2
                      exact cB)
                    obtain ⟨p, hp⟩ : ∃ p : Nat, p = t - 1 := ⟨_, rfl⟩
                    have hw : IntKind.i64.wrap ((t : Int) - 1) = (p : Int) := by rw [IntWalk.i64_in _ (by omega)]; omega
                    have hp6 : (p : Int) < 6 := by omega
                    have ht6' : (t : Int) < 6 := by omega
                    have cP : wr.cell? ⟨g, 5 + p, none⟩ = some (.int .i64 (dfM r.d.df p)) := (hblk.cell (5 + p)).trans ((PD.deep (soP r k rf (dfTo r t)) (by omega)).trans (by simp only [soP, dfTo]; rw [if_pos (by omega)]))
                    have cs : wr.cell? ⟨g, 5 + t, none⟩ = some (.int .i64 0) := (hblk.cell (5 + t)).trans ((PD.deep (soP r k rf (dfTo r t)) (by omega)).trans (by simp only [soP, dfTo]; rw [if_neg (by omega)]))
                    have fs : wr.frozen? ⟨g, 5 + t, none⟩ = false := hblk.frozen (5 + t)
                    have hst : dfM r.d.df t = max (dfM r.d.df p) (umod (r.d.df t) 5 : Int) := by rw [show t = p + 1 by omega]; rfl
                    have HST := hide hst
                    have HBK3 := hide hblk
                    have HP := hide hp
                    have HOB2 : Hid (ob < g) := hide (Nat.lt_of_lt_of_le (World.block_lt_of_cell? w ⟨ob, oo + k * 13 + 5 + t, none⟩ HRW.out) hgb)
                    clear eA hblk hst hp ht6
                    generalize r.d.df t = x at cR HST
                    generalize dfM r.d.df p = y at cP HST
                    have hy0 : (umod x 5 : Int) < 5 := by have := umod_lt x (show 0 < 5 by omega); omega
                    have HKP : Hid (∀ (w' : World) (v : Value), w'.cell? ⟨g, 5 + p, none⟩ = some (.int .i64 y) → w'.cell? ⟨ob, oo + k * 13 + 5 + t, none⟩ = some (.int .i64 x) → (w'.setCell ⟨g, 5 + t, none⟩ v).cell? ⟨g, 5 + p, none⟩ = some (.int .i64 y) ∧ (w'.setCell ⟨g, 5 + t, none⟩ v).cell? ⟨ob, oo + k * 13 + 5 + t, none⟩ = some (.int .i64 x)) := hide (fun w' v h1 h2 => ⟨(World.cell?_setCell_other _ _ _ _ (by intro e; injection e with _ e; have := HP.out; omega)).trans h1, (World.cell?_setCell_far _ _ _ _ (by have := HOB2.out; exact fun e => absurd e (by show g ≠ ob; omega))).trans h2⟩)
                    go_upto_region 13 with (fail)
                    go_region_held3 (fun w' => w'.cell? ⟨g, 5 + p, none⟩ = some (.int .i64 y) ∧ w'.cell? ⟨ob, oo + k * 13 + 5 + t, none⟩ = some (.int .i64 x)) (first | exact HKP.out _ _ (by assumption) (by assumption) | go_keep) (first | (go_at_call 24; refine (mod_int _ _ _ (by omega) (by omega)).mono ?_; rintro e w' ⟨rfl, rfl⟩))
                    all_goals go_wp2
                    all_goals
                      go_roundg (6 - (t + 1))
                      case measure => rw [HM3.out]; omega
                      case rel =>
                        refine ⟨t + 1, by omega, by omega, by go_num, ?_, ?_, rfl⟩
                        · rw [soP_congr r k rf (df' := upd (dfTo r t) t (max y (umod x 5 : Int))) (fun q hq => by
                            unfold upd dfTo
                            by_cases e : q = t
                            · subst e; simp [HST.out]
                            · rw [if_neg e]
                              by_cases h : q < t
                              · simp [h, show q < t + 1 by omega]
                              · simp [h, show ¬ q < t + 1 by omega]), ← soP_setD r k rf (dfTo r t) hlt]
                          first
                            | (rw [Int.max_eq_right (by omega)]; exact HBK3.out.set_ _ _)
                            | (rw [Int.max_eq_left (by omega)]; exact HBK3.out.set_ _ _)
                        · exact (hf3.set (.inl (by simp)) _).drew
                  · have hex : ¬ (t : Int) < 6 := by omega
                    have e6 : t = 6 := by omega
                    subst e6
                    have HBK3 := hide hblk
                    have HRO3 : Hid (∀ q, q < 4 → wr.ownsRow (g + 1) 3 1 (rf q) (someRl r n q).length ((someRl r n q).map (Value.int .i64))) := hide (fun q hq => own_fr (HRO.out q hq) hf3 (fun b hb hm => by
                      have := (own_block (HRO.out q hq) hb).1
                      have := List.mem_singleton.1 hm
                      omega))
                    clear hblk
                    obtain ⟨A0, q0, e0, -⟩ := own_slice (HRO3.out 0 (by omega))
                    obtain ⟨A1, q1, e1, -⟩ := own_slice (HRO3.out 1 (by omega))
                    obtain ⟨A2, q2, e2, -⟩ := own_slice (HRO3.out 2 (by omega))
                    obtain ⟨A3, q3, e3, -⟩ := own_slice (HRO3.out 3 (by omega))
                    have HSN : Hid (SomeTo raw (out ++ [⟨someP r k rf, someRl r n⟩]) n (k + 1)) := hide (HSO.out.snoc HX.out)
                    have HOWN3 := hide (own_fr (own_fr HOWN2.out hf2 (fun b hb hm => by
                      have := HOB.out b hb
                      have := List.mem_singleton.1 hm
                      omega)) hf3 (fun b hb hm => by
                      have := HOB.out b hb
                      have := List.mem_singleton.1 hm
                      omega))
                    have HRA3 : Hid (∀ x ∈ out, OwnRails wr w.heap.size x.d x.rl ∧ ∀ q, q < 4 → ∀ b, (x.d.rf q).ownBlock = some b → b < g) := hide (fun x hx => ⟨fun q hq => own_fr (own_fr (HRA2.out x hx q hq).1 hf2 (fun b hb hm => by
                      have := (HRA2.out x hx q hq).2 b hb
                      have := List.mem_singleton.1 hm
                      omega)) hf3 (fun b hb hm => by
                      have := (HRA2.out x hx q hq).2 b hb
                      have := List.mem_singleton.1 hm
                      omega), fun q hq b hb => (HRA2.out x hx q hq).2 b hb⟩)
                    have HCE : Hid ((someP r k rf).cells = (soP r k rf (dfTo r 6)).cells) := hide (soP_congr r k rf (df := dfM r.d.df) (fun q hq => by unfold dfTo; rw [if_pos hq]))
                    rw [← HCE.out] at HBK3
                    have HTY : Hid (∀ b, (Value.slice A5 out.length c5).ownBlock = some b → ∃ cs, Blk wr b 46 cs) := hide (fun b hb => (own_block HOWN3.out hb).2.2)
                    have HRO4 : Hid (OwnRails wr w.heap.size (someP r k rf) (someRl r n)) := hide (fun q hq => own_base (HRO3.out q hq) (by omega))
                    have hlo : out.length = k := HSO.out.1
                    have e0' : (someP r k rf).rf 0 = _ := e0
                    have e1' : (someP r k rf).rf 1 = _ := e1
                    have e2' : (someP r k rf).rf 2 = _ := e2
                    have e3' : (someP r k rf).rf 3 = _ := e3
                    have hwz : w.heap.size ≤ wr.heap.size := hfw3.size
                    clear e0 e1 e2 e3 HCE HRO3 HSO HRO HBK2 HOWN2 HRA2
                    generalize someP r k rf = D at HBK3 HRO4 e0' e1' e2' e3' HSN
                    have HC : Hid (D.cells = #[.int .i64 D.par, .slice A0 (someRl r n 0).length q0, .slice A1 (someRl r n 1).length q1, .slice A2 (someRl r n 2).length q2, .slice A3 (someRl r n 3).length q3, .int .i64 (D.df 0), .int .i64 (D.df 1), .int .i64 (D.df 2), .int .i64 (D.df 3), .int .i64 (D.df 4), .int .i64 (D.df 5), .int .i64 D.wd, .int .i64 D.ws]) := hide (by simp only [PD.cells, e0', e1', e2', e3'])
                    have HD : Hid (dvcs (out ++ [⟨D, someRl r n⟩]) = dvcs out ++ D.cells.toList) := hide (by simp [dvcs, dvc])
                    have HB4 := HBK3.out
                    rw [HC.out] at HB4
                    have c0 := HB4.cell 0
                    have c1 := HB4.cell 1
                    have c2 := HB4.cell 2
                    have c3 := HB4.cell 3
                    have c4 := HB4.cell 4
                    have c5x := HB4.cell 5
                    have c6 := HB4.cell 6
                    have c7 := HB4.cell 7
                    have c8 := HB4.cell 8
                    have c9 := HB4.cell 9
                    have c10 := HB4.cell 10
                    have c11 := HB4.cell 11
                    have c12 := HB4.cell 12
                    simp only [List.getElem?_toArray, List.getElem?_cons_zero, List.getElem?_cons_succ] at c0 c1 c2 c3 c4 c5x c6 c7 c8 c9 c10 c11 c12
                    clear e0' e1' e2' e3' HB4
                    go_wp2_with (first
                      | (at_builtin
                         refine wpList_append_row _ rfl (.tmp 83) (.tmp 85) _ rfl w.heap.size 46 i0 (.agg #[.int .i64 0, .slice none 0 0, .slice none 0 0, .slice none 0 0, .slice none 0 0, .int .i64 0, .int .i64 0, .int .i64 0, .int .i64 0, .int .i64 0, .int .i64 0, .int .i64 0, .int .i64 0]) 13 168 Try.underlying22 HI.out.1 HI.out.2.1 HI.out.2.2.1 HI.out.2.2.2 rfl (by omega) (.slice A5 out.length c5) out.length (dvcs out) rfl
                           (own_fr HOWN3.out ((Fr.refl [] _).alloc _) (fun _ _ => by simp)) (some ⟨wr.heap.size, 0, none⟩) 1 1 #[.int .i64 D.par, .slice A0 (someRl r n 0).length q0, .slice A1 (someRl r n 1).length q1, .slice A2 (someRl r n 2).length q2, .slice A3 (someRl r n 3).length q3, .int .i64 (D.df 0), .int .i64 (D.df 1), .int .i64 (D.df 2), .int .i64 (D.df 3), .int .i64 (D.df 4), .int .i64 (D.df 5), .int .i64 D.wd, .int .i64 D.ws].toList rfl rfl (row_lit wr _ _ rfl) (by intro u hu; simp at hu; rcases hu with rfl | rfl | rfl | rfl | rfl | rfl | rfl | rfl | rfl | rfl | rfl | rfl | rfl <;> rfl) (by simp only [maxLen]; omega) (by omega) (by simp; omega) ?_
                         intro v1 w9 hown9 hg9 hat9))
                    have hf9 : Fr [] w w9 := (hfw3.alloc _).grown hg9 (fun y hy => .inr (own_block HOWN3.out hy).1)
                    have HRX : Hid (∀ (E : PD) (rl : Nat → List Int), OwnRails wr w.heap.size E rl → OwnRails w9 w.heap.size E rl) := hide (fun E rl hE q hq => own_fr (own_fr (hE q hq) ((Fr.refl [] _).alloc _) (fun _ _ => by simp)) (Fr.of_grown hg9) (fun b hb hm => by
                      obtain ⟨cs, hcs⟩ := HTY.out b (by simpa using hm)
                      obtain ⟨cs', hcs'⟩ := (own_block (hE q hq) hb).2.2
                      exact Blk.ne_ hcs hcs' (by decide) rfl))
                    go_wp2
                    go_roundg (6 - (k + 1))
                    case measure => rw [HM.out]; omega
                    case rel =>
                      refine ⟨k + 1, _, by omega, by omega, by go_num, ?_, ?_, HSN.out, hf9, rfl⟩
                      · rw [HD.out, HC.out, List.length_append, List.length_singleton]
                        exact hown9
                      · intro x hx
                        rcases List.mem_append.1 hx with hx | hx
                        · exact HRX.out _ _ (HRA3.out x hx).1
                        · rw [List.mem_singleton.1 hx]
                          exact HRX.out _ _ HRO4.out
      · have hkl : (k : Int) < (raw.length : Int) := by omega
        have hk6' : ¬ (k : Int) < 6 := by omega
        have e6 : k = min raw.length 6 := by omega
        have HE := hide e6
        clear e6
        go_wp2
        go_ret
        exact ⟨_, out, rfl, HOWN.out, HRA.out, by rw [← HE.out]; exact HSO.out, hfr⟩
    · have hkl : ¬ (k : Int) < (raw.length : Int) := by omega
      have e6 : k = min raw.length 6 := by omega
      have HE := hide e6
      clear e6
      go_wp2
      go_ret
      exact ⟨_, out, rfl, HOWN.out, HRA.out, by rw [← HE.out]; exact HSO.out, hfr⟩
end Go.Proofs.Ytdocdgghphhdpaa

