/- Walks: law28's Some, with: no two devices' suppliers share a block. (Written by a program.) -/
import Derived.Test.YtbnfdpemfmeldaaRpmW6Mg
namespace Go.Proofs.Ytbnfdpemfmeldaa
open Go.RowKit

/-- No two devices' suppliers share a block. -/
def Apt (l : List ID) : Prop := ∀ (i j : Nat) (x y : ID), i ≠ j → l[i]? = some x → l[j]? = some y → ∀ b, x.sv.ownBlock = some b → y.sv.ownBlock ≠ some b
theorem Apt.nil : Apt [] := fun i j x y _ h => by cases h
theorem Apt.zero (k : Nat) : Apt (List.replicate k zeroID) := fun i j x y _ h _ b hb => by
  rw [List.eq_of_mem_replicate (List.mem_of_getElem? h)] at hb
  cases hb
theorem Apt.snoc {l : List ID} (h : Apt l) {d : ID} {B : Nat} (h1 : ∀ x ∈ l, ∀ b, x.sv.ownBlock = some b → b < B) (h2 : ∀ b, d.sv.ownBlock = some b → B ≤ b) : Apt (l ++ [d]) := fun i j x y hij hx hy b hb hc => by
  rw [List.getElem?_append] at hx hy
  split at hx
  · split at hy
    · exact h i j x y hij hx hy b hb hc
    · have e : d = y := by
        rw [List.getElem?_singleton] at hy
        split at hy
        · injection hy
        · cases hy
      subst e
      have := h1 x (List.mem_of_getElem? hx) b hb
      have := h2 b hc
      omega
  · have e : d = x := by
      rw [List.getElem?_singleton] at hx
      split at hx
      · injection hx
      · cases hx
    subst e
    split at hy
    · have := h1 y (List.mem_of_getElem? hy) b hc
      have := h2 b hb
      omega
    · rw [List.getElem?_singleton] at hx hy
      split at hx
      · split at hy
        · omega
        · cases hy
      · cases hx
theorem Apt.set {l : List ID} (h : Apt l) {r : Nat} {d : ID} {B : Nat} (h1 : ∀ x ∈ l, ∀ b, x.sv.ownBlock = some b → b < B) (h2 : ∀ b, d.sv.ownBlock = some b → B ≤ b) : Apt (l.set r d) := fun i j x y hij hx hy b hb hc => by
  rw [List.getElem?_set] at hx hy
  split at hx
  · split at hx
    · injection hx with hx
      subst hx
      split at hy
      · omega
      · have := h1 y (List.mem_of_getElem? hy) b hc
        have := h2 b hb
        omega
    · cases hx
  · split at hy
    · split at hy
      · injection hy with hy
        subst hy
        have := h1 x (List.mem_of_getElem? hx) b hb
        have := h2 b hc
        omega
      · cases hy
    · exact h i j x y hij hx hy b hb hc
def SomeRetA (w : World) (e : Ending) (w' : World) : Prop :=
  ∃ v out, e = .returned v ∧ w'.ownsRow w.heap.size 30 3 v out.length (idcs out) ∧ (∀ x ∈ out, OwnSup w' w.heap.size x) ∧ Dev8 out ∧ Apt out ∧ Fr [] w w'
def SoRelA (w : World) (raw : List ID) (n m : Nat) (v i : Value) (wr : World) : Prop :=
  ∃ k out, Apt out ∧ k ≤ n ∧ i = .int .i64 (k : Int) ∧ wr.ownsRow w.heap.size 30 3 v out.length (idcs out) ∧ (∀ x ∈ out, OwnSup wr w.heap.size x) ∧ SomeTo raw out k ∧ Fr [] w wr ∧ m = n - k
def S4RelA (w4 : World) (out : List ID) (gb k : Nat) (m : Nat) (i : Value) (wr : World) : Prop :=
  ∃ (q : Nat) (B : List ID), Apt B ∧ q ≤ k ∧ i = .int .i64 (q : Int) ∧ B.length = k ∧ Blk wr gb 30 (idcs B).toArray ∧ (∀ x ∈ B, OwnSup wr w4.heap.size x) ∧ (∀ (i : Nat) (d : ID), i < q → out[i]? = some d → ∃ v, B[k - 1 - i]? = some (revD k d v)) ∧ Fr [gb] w4 wr ∧ m = k - q
set_option maxHeartbeats 8000000 in
set_option maxRecDepth 100000 in
theorem some28_apt (A : Option Addr) (cp : Nat) (raw : List ID) (w : World) (hr : IdsAt w A raw) (hl : raw.length ≤ 20) (hs : ∀ x ∈ raw, x.sup.length ≤ 20) :
    Calls Try.prog 14 #[.slice A raw.length cp] w (SomeRetA w) := by
  have HR := hide hr
  have HS := hide hs
  obtain ⟨i0, hi0, hz0, hz1, hz2⟩ := info_parts id_info
  have HI := hide (And.intro hi0 (And.intro hz0 (And.intro hz1 hz2)))
  obtain ⟨i1, hi10, hz10, hz11, hz12⟩ := info_parts int_info1
  have HI1 := hide (And.intro hi10 (And.intro hz10 (And.intro hz11 hz12)))
  clear hi10 hz10 hz11 hz12 hr hs hi0 hz0 hz1 hz2
  obtain ⟨n, hn⟩ : ∃ n, n = min raw.length 8 := ⟨_, rfl⟩
  have hni : min (raw.length : Int) 8 = (n : Int) := by omega
  have hnr : n ≤ raw.length := by omega
  have hn8 : n ≤ 8 := by omega
  have HN := hide hn
  clear hn
  go_enter Try.func14, Try.ntmps14
  go_upto_region 2 with (fail)
  go_cut [4] (fun s4 wx => s4 = .int .i64 (n : Int) ∧ w = wx)
  case first =>
    go_wp2_with fail
    all_goals
      go_meet
      exact ⟨by congr 1; omega, rfl⟩
  case rest =>
    obtain ⟨rfl, rfl⟩ := hcut
    clear hni
    go_wp2
    go_loopg [3, 5] n (fun m v i wr => SoRelA w raw n m v i wr)
    case atStart => exact ⟨0, [], Apt.nil, by omega, rfl, own_nil _ _ _ _, (fun x hx => by cases hx), ⟨rfl, fun i r hi => by omega⟩, Fr.refl _ _, rfl⟩
    case round =>
      obtain ⟨k, out, hap, hk, rfl, hown, hra, hso, hfr, hmm⟩ := hrel
      have HAP := hide hap
      clear hap
      have HM := hide hmm
      have HOWN := hide hown
      have HRA := hide hra
      have HSO := hide hso
      obtain ⟨A3, c3, rfl, -, -, -⟩ := own_slice hown
      clear hmm hown hra hso
      by_cases hlt : k < n
      · obtain ⟨x, hx⟩ : ∃ x, raw[k]? = some x := ⟨_, List.getElem?_eq_getElem (by omega)⟩
        obtain ⟨ob, oo, A', cp', rfl, esv, c0, c1, c2, -⟩ := (HR.out.fr0 hfr).el hx
        have hrs : Row w A' (x.sup.map (Value.int .i64)) := by
          obtain ⟨A2, cp2, e3, hrs0⟩ := HR.out.2 x (List.mem_of_getElem? hx)
          rw [esv] at e3
          injection e3 with e3
          rw [e3]
          exact hrs0
        have hcw := (HR.out.el hx)
        have HRS := hide hrs
        have HX := hide hx
        have hsx := HS.out x (List.mem_of_getElem? hx)
        have hkl : (k : Int) < (raw.length : Int) := by omega
        have hkn : (k : Int) < (n : Int) := by omega
        obtain ⟨k1, hk1⟩ : ∃ k1, k1 = k + 1 := ⟨_, rfl⟩
        have hw1 : IntKind.i64.wrap ((k : Int) + 1) = (k1 : Int) := by rw [IntWalk.i64_in _ (by omega)]; omega
        have hk1a : 0 < k1 := by omega
        have hk1b : k1 ≤ 4096 := by omega
        have hw2 : IntKind.i64.wrap ((umod x.par k1 : Int) - 1) = (umod x.par k1 : Int) - 1 := IntWalk.i64_in _ (by have := umod_lt x.par hk1a; omega)
        have hrem : (x.dl : Int).tmod 12 = ((x.dl % 12 : Nat) : Int) := rfl
        have HBW : Hid (w.cell? ⟨ob, oo + k * 3 + 1, none⟩ = some (.slice A' x.sup.length cp')) := hide (by
          obtain ⟨ob2, oo2, A2, cp2, eA, e2, -, q1, -⟩ := hcw
          injection eA with eA
          injection eA with e3 e4
          subst e3 e4
          rw [e2] at esv
          rw [← esv]
          exact q1)
        clear hcw hx hrs esv
        go_upto_region 6 with (fail)
        go_cut [6] (fun s6 wx => SoCut wr x k s6 wx)
        case first =>
          go_region_held3 (fun w' => w'.cell? ⟨ob, oo + k * 3, none⟩ = some (.int .i64 x.par) ∧ w'.cell? ⟨ob, oo + k * 3 + 2, none⟩ = some (.int .u64 (x.dl : Int))) (go_keep) (first | (go_at_call 15; refine (mod_int _ _ _ (by omega) (by omega)).mono ?_; rintro e w' ⟨rfl, rfl⟩))
          all_goals
            go_wp2_with fail
            go_meet
            refine ⟨rfl, ?_, ?_⟩
            · refine Blk.fr (S := []) (w := wr.alloc (.cells #[.int .i64 (someP x k), .slice none 0 0, uv (x.dl % 12)] 30)) (Blk.new wr _ _) ?_ (by simp)
              have hpar : (IntKind.i64.wrap ((umod x.par (k + 1) : Int) - 1)) = (umod x.par (k + 1) : Int) - 1 := IntWalk.i64_in _ (by have := umod_lt x.par (show 0 < k + 1 by omega); omega)
              have h12 : ((x.dl : Int) % 12) = ((x.dl % 12 : Nat) : Int) := rfl
              simp only [hpar, h12]
              exact (Fr.refl _ _).drew
            · exact ((Fr.refl _ _).alloc _).drew
        case rest =>
          obtain ⟨rfl, hblk, hfx⟩ := hcut
          have HOWN2 := hide (own_fr HOWN.out hfx (fun _ _ => by simp))
          have HOB := hide (fun b hb => (own_block HOWN.out (g := b) hb).2.1)
          have HRB : Hid (∀ x ∈ out, ∀ b, x.sv.ownBlock = some b → b < wc.heap.size) := hide (fun x hx b hb => (own_block (own_fr (HRA.out x hx) hfx (fun _ _ => by simp)) hb).2.1)
          have HRA2 : Hid (∀ x ∈ out, OwnSup wc w.heap.size x ∧ ∀ b, x.sv.ownBlock = some b → b < wr.heap.size) := hide (fun x hx => ⟨own_fr (HRA.out x hx) hfx (fun _ _ => by simp), fun b hb => (own_block (HRA.out x hx) hb).2.1⟩)
          have hgb := hfr.size
          have hgs := hblk.lt
          have hfc := hfr.call hfx
          have HP := hide (show -1 ≤ someP x k ∧ someP x k < (k : Int) by have := umod_lt x.par (show 0 < k + 1 by omega); unfold someP; omega)
          clear HOWN HRA c0 c1 c2 hw1 hw2 hk1 hk1a hk1b k1 hfx hfr hrem
          generalize hpp : someP x k = pp at hblk HP
          have HPP := hide hpp
          clear hpp
          generalize wr.heap.size = g at hgb hgs hblk HOB HRA2 ⊢
          clear wr
          have HBK := hide hblk
          have hp0 := HP.out.1
          have hp1 := HP.out.2
          clear hblk
          go_wp2
          go_loopg [7] x.sup.length (fun m i wr => So2 wc g x pp k m i wr)
          case atStart => exact ⟨0, _, by omega, fun _ => rfl, rfl, HBK.out, by rw [List.take_zero]; have e : supTo pp k [] = [] := by { unfold supTo; split <;> rfl }; rw [e]; exact own_nil _ _ _ _, Fr.refl _ _, rfl⟩
          case round =>
            obtain ⟨j, v, hj, hk0, rfl, hblk, hown, hf2, hmm⟩ := hrel
            have HM2 := hide hmm
            have HOJ := hide hown
            have HBJ := hide hblk
            have hfw : Fr [] w wr := hfc.step hf2 (fun i hi => .inr (by rw [List.mem_singleton.1 hi]; exact hgb))
            obtain ⟨Av, cv, rfl, -, -, -⟩ := own_slice hown
            have cR : wr.cell? ⟨ob, oo + k * 3 + 1, none⟩ = some (.slice A' x.sup.length cp') := hfw.cell HBW.out (by simp)
            have HK0 := hide hk0
            clear hmm hown hblk hk0
            by_cases hjl : j < x.sup.length ∧ 0 < k
            · obtain ⟨hjl, hkp⟩ := hjl
              obtain ⟨y, hy⟩ : ∃ y, x.sup[j]? = some y := ⟨_, List.getElem?_eq_getElem hjl⟩
              obtain ⟨o2, o3, rfl, cY⟩ := (HRS.out.fr0 hfw).int hy
              have hji : (j : Int) < (x.sup.length : Int) := by omega
              have hki : (0 : Int) < (k : Int) := by omega
              have HST : Hid (supTo pp k (x.sup.take (j + 1)) = supSt pp k (supTo pp k (x.sup.take j)) y) := hide (by
                unfold supTo
                rw [if_pos hkp, if_pos hkp, take_succ_some hy, List.foldl_append]
                rfl)
              clear hy
              go_wp2_with fail
              refine (mod_any y k wr hkp (by omega)).mono ?_
              rintro e w' ⟨rfl, rfl⟩
              have hu := umod_lt y hkp
              have HSD : Hid (supSt pp k (supTo pp k (x.sup.take j)) y = if frB (umod y k : Int) pp (supTo pp k (x.sup.take j)) = true then supTo pp k (x.sup.take j) ++ [(umod y k : Int)] else supTo pp k (x.sup.take j)) := hide rfl
              rw [HSD.out] at HST
              obtain ⟨sv, hsv⟩ : ∃ sv : Int, sv = (umod y k : Int) := ⟨_, rfl⟩
              rw [← hsv] at HST ⊢
              have hs0 : 0 ≤ sv ∧ sv < k := by omega
              clear hsv hu HSD
              generalize hll : supTo pp k (x.sup.take j) = ll at HOJ HST HBJ ⊢
              have HLL := hide hll
              clear hll
              have cB1 : wr.cell? ⟨g, 1, none⟩ = some (.slice Av ll.length cv) := HBJ.out.cell 1
              have cB0 : wr.cell? ⟨g, 0, none⟩ = some (.int .i64 pp) := HBJ.out.cell 0
              have fB1 : wr.frozen? ⟨g, 1, none⟩ = false := HBJ.out.frozen 1
              have HRL := hide (Row.of_own HOJ.out)
              have HOJB : Hid (∀ y, (Value.slice Av ll.length cv).ownBlock = some y → wc.heap.size ≤ y) := hide (fun y hy => (own_block HOJ.out hy).1)
              have HNB : Hid (∀ y, (Value.slice Av ll.length cv).ownBlock = some y → y ≠ g) := hide (fun y hy => by have := HOJB.out y hy; omega)
              have hll20 : ll.length ≤ 20 := by
                rw [← HLL.out]
                have := (supTo_ok pp k (x.sup.take j)).len
                rw [List.length_take] at this
                omega
              obtain ⟨b0, hb0⟩ : ∃ b0, (sv != pp) = b0 := ⟨_, rfl⟩
              have HF0 : Hid (frB sv pp [] = b0) := hide (by rw [frB_nil, hb0])
              obtain ⟨w5, hw5⟩ : ∃ w5, w5 = wr := ⟨_, rfl⟩
              subst hw5
              clear cR cY
              go_wp2
              go_loopg [9, 10] ll.length (fun m b i wx => So3 w5 sv pp ll m b i wx)
              case atStart => exact ⟨0, by omega, rfl, by rw [List.take_zero, HF0.out], rfl, rfl⟩
              case round =>
                obtain ⟨t, ht, rfl, rfl, rfl, hmm⟩ := hrel
                have HM3 := hide hmm
                clear hmm hb0
                by_cases htl : t < ll.length
                · obtain ⟨z, hz⟩ : ∃ z, ll[t]? = some z := ⟨_, List.getElem?_eq_getElem htl⟩
                  obtain ⟨o4, o5, rfl, cZ⟩ := Row.int HRL.out hz
                  have hti : (t : Int) < (ll.length : Int) := by omega
                  have HSN : Hid (frB sv pp (ll.take (t + 1)) = (frB sv pp (ll.take t) && (z != sv))) := hide (by rw [take_succ_some hz, frB_snoc])
                  clear hz
                  cases hfb : frB sv pp (ll.take t) with
                  | true =>
                    rw [hfb] at HSN
                    obtain ⟨b1, hb1⟩ : ∃ b1, (z != sv) = b1 := ⟨_, rfl⟩
                    rw [hb1] at HSN
                    clear hfb
                    go_wp2
                    go_roundg (ll.length - (t + 1))
                    case measure => rw [HM3.out]; omega
                    case rel => exact ⟨t + 1, by omega, by go_num, by rw [HSN.out]; rfl, rfl, rfl⟩
                  | false =>
                    rw [hfb] at HSN
                    clear hfb
                    go_wp2
                    go_roundg (ll.length - (t + 1))
                    case measure => rw [HM3.out]; omega
                    case rel => exact ⟨t + 1, by omega, by go_num, by rw [HSN.out]; rfl, rfl, rfl⟩
                · have hti : ¬ (t : Int) < (ll.length : Int) := by omega
                  rw [List.take_of_length_le (show ll.length ≤ t by omega)]
                  cases hfb : frB sv pp ll with
                  | true =>
                    rw [if_pos hfb] at HST
                    clear hfb
                    go_wp2_with (first
                      | (at_builtin
                         refine wpList_append_row _ rfl (.tmp 86) (.tmp 88) _ rfl wc.heap.size 3 i1 (.int .i64 0) 1 8 Try.underlying27 HI1.out.1 HI1.out.2.1 HI1.out.2.2.1 HI1.out.2.2.2 rfl (by omega) (.slice Av ll.length cv) ll.length (ll.map (Value.int .i64)) rfl
                           (own_fr HOJ.out ((Fr.refl [] _).alloc _) (fun _ _ => by simp)) (some ⟨w5.heap.size, 0, none⟩) 1 1 [.int .i64 sv] rfl rfl (row_one w5 _ _) (by intro u hu; rw [List.mem_singleton.1 hu]; rfl) (by simp only [maxLen]; omega) (by omega) (by have := hf2.size; simp; omega) ?_
                         intro v1 w7 hown7 hg7 hat7
                         obtain ⟨A7, c7, rfl, -, -, -⟩ := own_slice hown7
                         have hc71 := cell_grown ((Fr.refl [] w5).alloc _) hg7 cB1 (fun y hy => HNB.out y (by simpa using hy))
                         have hf71 := frozen_grown ((Fr.refl [] w5).alloc _) hg7 fB1 HBJ.out.lt (fun y hy => HNB.out y (by simpa using hy))))
                    have HHH : True := trivial
                    have hf57 : Fr (Value.slice Av ll.length cv).ownBlock.toList w5 w7 := ((Fr.refl _ w5).alloc _).trans (Fr.of_grown hg7)
                    have hfc7 : Fr [g] wc w7 := hf2.step hf57 (fun i hi => .inr (HOJB.out i (by simpa using hi)))
                    have HB7 := hide ((HBJ.out.fr hf57 (fun hm => HNB.out g (by simpa using hm) rfl)).set_ 1 (.slice A7 (ll.length + 1) c7))
                    have HOW7 := hide (own_fr hown7 ((Fr.refl [g] w7).set (p := ⟨g, 1, none⟩) (.inl (by simp)) (.slice A7 (ll.length + 1) c7)) (fun y hy hm => by
                      have h1 := (own_block hown7 hy).1
                      have h2 := List.mem_singleton.1 hm
                      omega))
                    go_roundg (x.sup.length - (j + 1))
                    case measure => rw [HM2.out]; omega
                    case rel =>
                      refine ⟨j + 1, .slice A7 (ll.length + 1) c7, by omega, fun h => by omega, by go_num, HB7.out, ?_, hfc7.set (.inl (by simp)) _, rfl⟩
                      rw [HST.out, List.length_append, List.map_append]
                      exact HOW7.out
                  | false =>
                    rw [if_neg (by rw [hfb]; decide)] at HST
                    clear hfb
                    go_wp2
                    go_roundg (x.sup.length - (j + 1))
                    case measure => rw [HM2.out]; omega
                    case rel => exact ⟨j + 1, .slice Av ll.length cv, by omega, fun h => by omega, by go_num, HBJ.out, by rw [HST.out]; exact HOJ.out, hf2, rfl⟩
            · have HE : Hid (supTo pp k (x.sup.take j) = supTo pp k x.sup) := hide (by
                by_cases hk : k = 0
                · subst hk
                  rfl
                · rw [List.take_of_length_le (by omega)])
              rw [HE.out] at HOJ HBJ
              generalize hll : supTo pp k x.sup = ll at HOJ HBJ
              have HLL := hide hll
              clear hll HE HK0
              have HB5 := HBJ.out
              have e0 := HB5.cell 0
              have e1 := HB5.cell 1
              have e2 := HB5.cell 2
              simp only [List.getElem?_toArray, List.getElem?_cons_zero, List.getElem?_cons_succ] at e0 e1 e2
              have HSN : Hid (SomeTo raw (out ++ [⟨pp, .slice Av ll.length cv, x.dl % 12, ll⟩]) (k + 1)) := hide (by
                have h1 := HSO.out.snoc HX.out (v := .slice Av ll.length cv)
                rw [HPP.out, HLL.out] at h1
                exact h1)
              have HOW5 := hide (own_fr HOWN2.out hf2 (fun b hb hm => by
                have := HOB.out b hb
                have := List.mem_singleton.1 hm
                omega))
              have HRA5 : Hid (∀ x ∈ out, OwnSup wr w.heap.size x) := hide (fun x hx => own_fr (HRA2.out x hx).1 hf2 (fun b hb hm => by
                have := (HRA2.out x hx).2 b hb
                have := List.mem_singleton.1 hm
                omega))
              have HTY : Hid (∀ b, (Value.slice A3 out.length c3).ownBlock = some b → ∃ cs, Blk wr b 30 cs) := hide (fun b hb => (own_block HOW5.out hb).2.2)
              have hcz : w.heap.size ≤ wc.heap.size := hfc.size
              have HOS : Hid (OwnSup wr w.heap.size ⟨pp, .slice Av ll.length cv, x.dl % 12, ll⟩) := hide (own_base HOJ.out hcz)
              have hlo : out.length = k := HSO.out.1
              have hwz : w.heap.size ≤ wr.heap.size := hfw.size
              have HAPN : Hid (Apt (out ++ [⟨pp, .slice Av ll.length cv, x.dl % 12, ll⟩])) := hide (HAP.out.snoc (B := wc.heap.size) HRB.out (fun b hb => (own_block HOJ.out hb).1))
              clear HOWN2 HRA2 HB5
              rcases (show (¬ (j : Int) < (x.sup.length : Int)) ∨ ((j : Int) < (x.sup.length : Int) ∧ ¬ (0 : Int) < (k : Int)) by omega) with hex | ⟨hex, hex2⟩
              all_goals
                clear hjl
                go_wp2_with (first
                  | (at_builtin
                     refine wpList_append_row _ rfl (.tmp 91) (.tmp 93) _ rfl w.heap.size 30 i0 (.agg #[.int .i64 0, .slice none 0 0, .int .u64 0]) 3 40 Try.underlying22 HI.out.1 HI.out.2.1 HI.out.2.2.1 HI.out.2.2.2 rfl (by omega) (.slice A3 out.length c3) out.length (idcs out) rfl
                       (own_fr HOW5.out ((Fr.refl [] _).alloc _) (fun _ _ => by simp)) (some ⟨wr.heap.size, 0, none⟩) 1 1 #[.int .i64 pp, .slice Av ll.length cv, uv (x.dl % 12)].toList rfl rfl (row_lit wr _ _ rfl) (by intro u hu; simp at hu; rcases hu with rfl | rfl | rfl <;> rfl) (by simp only [maxLen]; omega) (by omega) (by simp; omega) ?_
                     intro v1 w9 hown9 hg9 hat9))
                have hf9 : Fr [] w w9 := (hfw.alloc _).grown hg9 (fun y hy => .inr (own_block HOW5.out hy).1)
                have HRX : Hid (∀ E : ID, OwnSup wr w.heap.size E → OwnSup w9 w.heap.size E) := hide (fun E hE => own_fr (own_fr hE ((Fr.refl [] _).alloc _) (fun _ _ => by simp)) (Fr.of_grown hg9) (fun b hb hm => by
                  obtain ⟨cs, hcs⟩ := HTY.out b (by simpa using hm)
                  obtain ⟨cs', hcs'⟩ := (own_block hE hb).2.2
                  exact Blk.ne_ hcs hcs' (by decide) rfl))
                go_roundg (n - (k + 1))
                case measure => rw [HM.out]; omega
                case rel =>
                  refine ⟨k + 1, out ++ [⟨pp, .slice Av ll.length cv, x.dl % 12, ll⟩], HAPN.out, by omega, by go_num, ?_, fun E hE => ?_, HSN.out, hf9, rfl⟩
                  · rw [List.length_append, idcs_snoc]
                    exact hown9
                  · rcases List.mem_append.1 hE with hE | hE
                    · exact HRX.out E (HRA5.out E hE)
                    · rw [List.mem_singleton.1 hE]
                      exact HRX.out _ HOS.out
      · obtain rfl : k = n := by omega
        have hmod : ((k : Int) % 2) = ((k % 2 : Nat) : Int) := by omega
        have hdev : Dev8 out := HSO.out.dev8 (by omega) (by omega) HS.out
        have hlo : out.length = k := HSO.out.1
        have HDEV := hide hdev
        have HRK := hide (HSO.out.rank (by omega))
        have HLO := hide hlo
        have hk8 : k ≤ 8 := by omega
        clear hdev hlo HM hlt
        by_cases hev : k % 2 = 0
        · have he0 : ((k : Int) % 2 == 0) = true := by simp; omega
          clear hmod hev
          go_wp2
          go_ret
          exact ⟨.slice A3 out.length c3, out, rfl, HOWN.out, HRA.out, HDEV.out, HAP.out, hfr⟩
        · have he0 : ((k : Int) % 2 == 0) = false := by simp; omega
          have hk1 : 0 < k := by omega
          clear hmod hev
          have hmk := make_id k (by omega) wr
          have hf1 : Fr [] wr (wr.alloc (.cells (idcs (List.replicate k zeroID)).toArray 30)) := (Fr.refl _ _).alloc _
          have hb1 := Blk.new wr 30 (idcs (List.replicate k zeroID)).toArray
          have HOB := hide (fun b hb => (own_block HOWN.out (g := b) hb).2.1)
          have HOBR := hide (fun x (hx : x ∈ out) b hb => (own_block (HRA.out x hx) (g := b) hb).2.1)
          have hzw := hfr.size
          go_upto_region 22 with (fail)
          clear hmk
          generalize wr.alloc (.cells (idcs (List.replicate k zeroID)).toArray 30) = w4 at hf1 hb1 ⊢
          generalize wr.heap.size = gb at hb1 HOB HOBR hzw ⊢
          have HOWN4 := hide (own_fr HOWN.out hf1 (fun _ _ => by simp))
          have HRA4 : Hid (∀ x ∈ out, OwnSup w4 w.heap.size x) := hide (fun x hx => own_fr (HRA.out x hx) hf1 (fun _ _ => by simp))
          have hfr4 := hfr.call hf1
          have HB1 := hide hb1
          have hgb4 := hb1.lt
          clear HOWN HRA hf1 hb1 hfr HSO
          clear wr
          go_wp2
          go_loopg [12] k (fun m i wr => S4RelA w4 out gb k m i wr)
          case atStart => exact ⟨0, List.replicate k zeroID, Apt.zero k, by omega, rfl, by simp, HB1.out, fun x hx => by rw [List.eq_of_mem_replicate hx]; exact own_nil _ _ _ _, fun i d hi => by omega, Fr.refl _ _, rfl⟩
          case round =>
            obtain ⟨q, B, hapB, hq, rfl, hBl, hblk, hown, hB, hf4, hmm⟩ := hrel
            have HM := hide hmm
            have HBL := hide hBl
            have HAPB := hide hapB
            clear hapB
            have HBK := hide hblk
            have HOB4 := hide hown
            have HBB := hide hB
            have hoff : ∀ b, (Value.slice A3 out.length c3).ownBlock = some b → b ∉ [gb] := fun b hb hm => by
              have := HOB.out b hb
              have := List.mem_singleton.1 hm
              omega
            have HIDS : Hid (IdsAt wr A3 out) := hide ⟨(Row.of_own (own_fr HOWN4.out hf4 hoff)), fun x hx => OwnSup.at_ (own_fr (HRA4.out x hx) hf4 (fun b hb hm => by
              have := HOBR.out x hx b hb
              have := List.mem_singleton.1 hm
              omega))⟩
            clear hmm hBl hblk hown hB hoff
            by_cases hlt : q < k
            · obtain ⟨d, hd⟩ : ∃ d, out[q]? = some d := ⟨_, List.getElem?_eq_getElem (by rw [HLO.out]; exact hlt)⟩
              obtain ⟨ob, oo, A', cp', rfl, esv, c0, c1, c2, hrs⟩ := HIDS.out.el hd
              have HD := hide hd
              have HRS := hide hrs
              have hqk : (q : Int) < (k : Int) := by omega
              have hqo : (q : Int) < (out.length : Int) := by rw [HLO.out]; omega
              have hp := HDEV.out.par q d hd
              rw [HLO.out] at hp
              have hfd : Fr [] wr (wr.alloc (.cells #[.int .i64 (-1), .slice none 0 0, .int .u64 (d.dl : Int)] 30)) := (Fr.refl _ _).alloc _
              have hbd := Blk.new wr 30 #[.int .i64 (-1), .slice none 0 0, .int .u64 (d.dl : Int)]
              clear hd hrs esv
              go_upto_region 26 with (fail)
              generalize wr.alloc (.cells #[.int .i64 (-1), .slice none 0 0, .int .u64 (d.dl : Int)] 30) = w5 at hfd hbd ⊢
              generalize hgd : wr.heap.size = gd at hbd ⊢
              have HGD := hide hgd
              have d0 := hfd.cell c0 (by simp)
              have cD0 : w5.cell? ⟨gd, 0, none⟩ = some (.int .i64 (-1)) := hbd.cell 0
              have fD0 : w5.frozen? ⟨gd, 0, none⟩ = false := hbd.frozen 0
              have HBD := hide hbd
              clear hgd hbd c0 c2
              go_upto_if 117 with (fail)
              go_cut [] (fun wx => Blk wx gd 30 #[.int .i64 (revP k d.par), .slice none 0 0, .int .u64 (d.dl : Int)] ∧ Fr [gd] w5 wx)
              case first =>
                by_cases h0 : 0 ≤ d.par
                · go_wp2
                  go_meet
                  refine ⟨?_, (Fr.refl _ _).set (.inl (by simp)) _⟩
                  have h1 := HBD.out.set_ 0 (.int .i64 ((k : Int) - 1 - d.par))
                  rw [show revP k d.par = (k : Int) - 1 - d.par by unfold revP; rw [if_pos h0]]
                  exact h1
                · go_wp2
                  go_meet
                  refine ⟨?_, Fr.refl _ _⟩
                  rw [show revP k d.par = -1 by unfold revP; rw [if_neg (by omega)]]
                  exact HBD.out
              case rest =>
              obtain ⟨hbd, hfx⟩ := hcut
              have hfwc : Fr [] wr wc := hfd.step hfx (fun i hi => .inr (by rw [List.mem_singleton.1 hi, ← HGD.out]; exact Nat.le_refl _))
              have HBD2 := hide hbd
              have hgc := hbd.lt
              have hsl := HDEV.out.sl q d HD.out
              have HSUP := hide (HDEV.out.sup q d HD.out)
              rw [HLO.out] at HSUP
              have hobl := World.block_lt_of_cell? wr _ c1
              have HC1 := hide c1
              have hgbl := HBK.out.lt
              obtain ⟨w8, hw8⟩ : ∃ w8, w8 = wr := ⟨_, rfl⟩
              rw [← hw8] at hfwc HRS HC1 HBK HOB4 hf4 HGD hobl hgbl
              clear hbd hfx hfd HBD d0 cD0 fD0 w5 c1 HIDS hw8
              clear wr
              have hgd8 : w8.heap.size = gd := HGD.out
              go_wp2
              go_loopg [14] d.sup.length (fun m i wx => S5Rel wc gd k d m i wx)
              case atStart => exact ⟨0, .slice none 0 0, by omega, rfl, HBD2.out, own_nil _ _ _ _, Fr.refl _ _, rfl⟩
              case round =>
              obtain ⟨j, v, hj, rfl, hblk, hown, hf5, hmm⟩ := hrel
              have HM5 := hide hmm
              generalize hRL : (d.sup.take j).map (fun s => (k : Int) - 1 - s) = RL at hown
              have HRL := hide hRL
              have HOJ := hide hown
              have HBJ := hide hblk
              obtain ⟨Av, cv, rfl, -, -, -⟩ := own_slice hown
              have hrl20 : RL.length ≤ 20 := by rw [← hRL, List.length_map, List.length_take]; omega
              clear hRL
              have hfw5 : Fr [] w8 wr := hfwc.step hf5 (fun i hi => .inr (by rw [List.mem_singleton.1 hi, hgd8]; exact Nat.le_refl _))
              have cR := hfw5.cell HC1.out (by simp)
              clear hmm hown hblk
              by_cases hjl : j < d.sup.length
              · obtain ⟨y, hy⟩ : ∃ y, d.sup[j]? = some y := ⟨_, List.getElem?_eq_getElem hjl⟩
                obtain ⟨o2, o3, rfl, cY⟩ := (HRS.out.fr0 hfw5).int hy
                have hyb := HSUP.out y (List.mem_of_getElem? hy)
                have HTJ := hide (take_succ_some hy)
                have ho2l : o2 < w8.heap.size := by
                  obtain ⟨o4, o5, e4, hl4⟩ := HRS.out.lt (by rw [List.length_map]; omega)
                  injection e4 with e4
                  injection e4 with e5
                  rw [e5]
                  exact hl4
                have HNB : Hid (∀ z, (Value.slice Av RL.length cv).ownBlock = some z → z ≠ gd) := hide (fun z hz => by have := (own_block HOJ.out hz).1; omega)
                have hwcs : w8.heap.size ≤ wc.heap.size := hfwc.size
                have HNR : Hid (∀ z, (Value.slice Av RL.length cv).ownBlock = some z → ¬ (z = ob ∨ z = o2)) := hide (fun z hz h => by have := (own_block HOJ.out hz).1; omega)
                have cB1 : wr.cell? ⟨gd, 1, none⟩ = some (.slice Av RL.length cv) := HBJ.out.cell 1
                have hji : (j : Int) < (d.sup.length : Int) := by omega
                have hwk : IntKind.i64.wrap ((k : Int) - 1) = (k : Int) - 1 := IntWalk.i64_in _ (by omega)
                have hwy : IntKind.i64.wrap ((k : Int) - 1 - y) = (k : Int) - 1 - y := IntWalk.i64_in _ (by omega)
                clear hy
                go_upto_region 31 with (fail)
                refine wp_region_T (fun w' => w'.cell? ⟨gd, 1, none⟩ = some (.slice Av RL.length cv) ∧ w'.cell? ⟨ob, oo + q * 3 + 1, none⟩ = some (.slice (some ⟨o2, o3, none⟩) d.sup.length cp') ∧ w'.cell? ⟨o2, o3 + j, none⟩ = some (.int .i64 y)) 16 (by kernel_rfl) ?_
                have hS : (fun w' => w'.cell? ⟨gd, 1, none⟩ = some (.slice Av RL.length cv) ∧ w'.cell? ⟨ob, oo + q * 3 + 1, none⟩ = some (.slice (some ⟨o2, o3, none⟩) d.sup.length cp') ∧ w'.cell? ⟨o2, o3 + j, none⟩ = some (.int .i64 y)) { wr with drawn := wr.drawn + 1 } := ⟨cB1, cR, cY⟩
                refine wpAnyT_take (i := 0) (v := ?v0) rfl (by kernel_rfl) (by kernel_rfl) (fun _ _ _ h => h) (Or.inl ⟨by rfl, ?hy0⟩) hS ?rest0
                case hy0 =>
                  intro wz hSw
                  obtain ⟨s0, s1, s2⟩ := hSw
                  go_simp
                  try rfl
                try simp only [Act.put, List.setIfInBounds_toArray, List.set_cons_zero, List.set_cons_succ, List.getElem_toArray, List.getElem_cons_zero]
                refine wpAnyT_take (i := 1) (v := ?v1) rfl (by kernel_rfl) (by kernel_rfl) (fun _ _ _ h => h) (Or.inl ⟨by rfl, ?hy1⟩) hS ?rest1
                case hy1 =>
                  intro wz hSw
                  obtain ⟨s0, s1, s2⟩ := hSw
                  go_simp
                  try rfl
                try simp only [Act.put, List.setIfInBounds_toArray, List.set_cons_zero, List.set_cons_succ, List.getElem_toArray, List.getElem_cons_zero, List.getElem_cons_succ]
                refine wpAnyT_take (i := 2) (v := ?v2) rfl (by kernel_rfl) (by kernel_rfl) (fun _ _ _ h => h) (Or.inl ⟨by rfl, ?hy2⟩) hS ?rest2
                case hy2 =>
                  intro wz hSw
                  obtain ⟨s0, s1, s2⟩ := hSw
                  go_simp
                  try rfl
                try simp only [Act.put, List.setIfInBounds_toArray, List.set_cons_zero, List.set_cons_succ, List.getElem_toArray, List.getElem_cons_zero, List.getElem_cons_succ]
                refine wpAnyT_take (i := 3) (v := ?v3) rfl (by kernel_rfl) (by kernel_rfl) (fun _ _ _ h => h) (Or.inl ⟨by rfl, ?hy3⟩) hS ?rest3
                case hy3 =>
                  intro wz hSw
                  obtain ⟨s0, s1, s2⟩ := hSw
                  go_simp
                  try rfl
                try simp only [Act.put, List.setIfInBounds_toArray, List.set_cons_zero, List.set_cons_succ, List.getElem_toArray, List.getElem_cons_zero, List.getElem_cons_succ]
                refine wpAnyT_take (i := 4) (v := ?v4) rfl (by kernel_rfl) (by kernel_rfl) (fun _ _ _ h => h) (Or.inl ⟨by rfl, ?hy4⟩) hS ?rest4
                case hy4 =>
                  intro wz hSw
                  obtain ⟨s0, s1, s2⟩ := hSw
                  go_simp
                  try rfl
                try simp only [Act.put, List.setIfInBounds_toArray, List.set_cons_zero, List.set_cons_succ, List.getElem_toArray, List.getElem_cons_zero, List.getElem_cons_succ]
                refine wpAnyT_take (i := 5) (v := ?v5) rfl (by kernel_rfl) (by kernel_rfl) (fun _ _ _ h => h) (Or.inl ⟨by rfl, ?hy5⟩) hS ?rest5
                case hy5 =>
                  intro wz hSw
                  obtain ⟨s0, s1, s2⟩ := hSw
                  go_simp
                  try rfl
                try simp only [Act.put, List.setIfInBounds_toArray, List.set_cons_zero, List.set_cons_succ, List.getElem_toArray, List.getElem_cons_zero, List.getElem_cons_succ]
                refine wpAnyT_take (i := 6) (v := ?v6) rfl (by kernel_rfl) (by kernel_rfl) (fun _ _ _ h => h) (Or.inl ⟨by rfl, ?hy6⟩) hS ?rest6
                case hy6 =>
                  intro wz hSw
                  obtain ⟨s0, s1, s2⟩ := hSw
                  go_simp
                  try rfl
                try simp only [Act.put, List.setIfInBounds_toArray, List.set_cons_zero, List.set_cons_succ, List.getElem_toArray, List.getElem_cons_zero, List.getElem_cons_succ]
                refine wpAnyT_take (i := 7) (v := ?v7) rfl (by kernel_rfl) (by kernel_rfl) (fun _ _ _ h => h) (Or.inl ⟨by rfl, ?hy7⟩) hS ?rest7
                case hy7 =>
                  intro wz hSw
                  obtain ⟨s0, s1, s2⟩ := hSw
                  go_simp
                  try rfl
                try simp only [Act.put, List.setIfInBounds_toArray, List.set_cons_zero, List.set_cons_succ, List.getElem_toArray, List.getElem_cons_zero, List.getElem_cons_succ]
                refine wpAnyT_take (i := 8) (v := ?v8) rfl (by kernel_rfl) (by kernel_rfl) (fun _ _ _ h => h) (Or.inl ⟨by rfl, ?hy8⟩) hS ?rest8
                case hy8 =>
                  intro wz hSw
                  obtain ⟨s0, s1, s2⟩ := hSw
                  go_simp
                  try rfl
                try simp only [Act.put, List.setIfInBounds_toArray, List.set_cons_zero, List.set_cons_succ, List.getElem_toArray, List.getElem_cons_zero, List.getElem_cons_succ]
                refine wpAnyT_take (i := 9) (v := ?v9) rfl (by kernel_rfl) (by kernel_rfl) (fun _ _ _ h => h) (Or.inl ⟨by rfl, ?hy9⟩) hS ?rest9
                case hy9 =>
                  intro wz hSw
                  obtain ⟨s0, s1, s2⟩ := hSw
                  go_simp
                  try rfl
                try simp only [Act.put, List.setIfInBounds_toArray, List.set_cons_zero, List.set_cons_succ, List.getElem_toArray, List.getElem_cons_zero, List.getElem_cons_succ]
                refine wpAnyT_take (i := 10) (v := ?v10) rfl (by kernel_rfl) (by kernel_rfl) (fun _ _ _ h => h) (Or.inl ⟨by rfl, ?hy10⟩) hS ?rest10
                case hy10 =>
                  intro wz hSw
                  obtain ⟨s0, s1, s2⟩ := hSw
                  go_simp
                  try rfl
                try simp only [Act.put, List.setIfInBounds_toArray, List.set_cons_zero, List.set_cons_succ, List.getElem_toArray, List.getElem_cons_zero, List.getElem_cons_succ]
                refine wpAnyT_take (i := 11) (v := ?v11) rfl (by kernel_rfl) (by kernel_rfl) (fun _ _ _ h => h) (Or.inl ⟨by rfl, ?hy11⟩) hS ?rest11
                case hy11 =>
                  intro wz hSw
                  obtain ⟨s0, s1, s2⟩ := hSw
                  go_simp
                  try rfl
                try simp only [Act.put, List.setIfInBounds_toArray, List.set_cons_zero, List.set_cons_succ, List.getElem_toArray, List.getElem_cons_zero, List.getElem_cons_succ]
                refine wpAnyT_take (i := 12) (v := ?v12) rfl (by kernel_rfl) (by kernel_rfl) (fun _ _ _ h => h) (Or.inl ⟨by rfl, ?hy12⟩) hS ?rest12
                case hy12 =>
                  intro wz hSw
                  obtain ⟨s0, s1, s2⟩ := hSw
                  go_simp
                  try rfl
                try simp only [Act.put, List.setIfInBounds_toArray, List.set_cons_zero, List.set_cons_succ, List.getElem_toArray, List.getElem_cons_zero, List.getElem_cons_succ]
                clear hS
                have hf67 : Fr [] wr ((wr.alloc (.cells #[.int .i64 ((k : Int) - 1 - y)] 3)).drew) := ((Fr.refl _ _).alloc _).drew
                refine wpAnyT_one (i := 13) (by kernel_rfl) rfl (by rfl) (fun K hK => ?_)
                go_simp
                refine hK _ _ (.inr ⟨hf67.cell cB1 (by simp), hf67.cell cR (by simp), hf67.cell cY (by simp)⟩) ?_
                refine wpAnyT_one (i := 14) (by kernel_rfl) rfl (by rfl) (fun K2 hK2 => ?_)
                refine wp_append_row _ (.tmp 138) (.tmp 150) 27 (by rfl) wc.heap.size 3 i1 (.int .i64 0) 1 8 Try.underlying27 HI1.out.1 HI1.out.2.1 HI1.out.2.2.1 HI1.out.2.2.2 rfl (by omega) (.slice Av RL.length cv) RL.length (RL.map (Value.int .i64)) (by rfl)
                  (own_fr HOJ.out hf67 (fun _ _ => by simp)) (some ⟨wr.heap.size, 0, none⟩) 1 1 [.int .i64 ((k : Int) - 1 - y)] (by rfl) rfl ((row_one wr _ _).fr0 (Fr.refl _ _).drew) (by intro u hu; rw [List.mem_singleton.1 hu]; rfl) (by simp only [maxLen]; omega) (by omega) (by have := hf5.size; simp; omega) ?_
                intro v7 w7 hown7 hg7 hat7
                obtain ⟨A9, c9, rfl, -, -, -⟩ := own_slice hown7
                have hf7 : Fr (Value.slice Av RL.length cv).ownBlock.toList wr w7 := hf67.mono (fun _ _ h => by cases h) |>.trans (Fr.of_grown hg7)
                have g0 := hf7.cell cB1 (fun hm => HNB.out gd (by simpa using hm) rfl)
                have g1 := hf7.cell cR (fun hm => HNR.out ob (by simpa using hm) (.inl rfl))
                have g2 := hf7.cell cY (fun hm => HNR.out o2 (by simpa using hm) (.inr rfl))
                refine hK2 _ _ (.inr ⟨g0, g1, g2⟩) ?_
                try simp only [Act.put, List.setIfInBounds_toArray, List.set_cons_zero, List.set_cons_succ, List.getElem_toArray, List.getElem_cons_zero, List.getElem_cons_succ]
                refine wpAnyT_one (i := 15) (by kernel_rfl) rfl (by rfl) (fun K4 hK4 => ?_)
                go_simp
                refine hK4 _ _ (.inr ⟨g0, g1, g2⟩) ?_
                try simp only [Act.put, List.setIfInBounds_toArray, List.set_cons_zero, List.set_cons_succ, List.getElem_toArray, List.getElem_cons_zero, List.getElem_cons_succ]
                refine wpAnyT_one (i := 16) (by kernel_rfl) rfl (by rfl) (fun K5 hK5 => ?_)
                have f37 : w7.frozen? ⟨gd, 1, none⟩ = false := by rw [hf7.frozen (p := ⟨gd, 1, none⟩) (HBJ.out.lt) (fun hm => HNB.out gd (by simpa using hm) rfl)]; exact HBJ.out.frozen 1
                go_simp
                refine hK5 _ _ (.inl rfl) ?_
                try simp only [Act.put, List.setIfInBounds_toArray, List.set_cons_zero, List.set_cons_succ, List.getElem_toArray, List.getElem_cons_zero, List.getElem_cons_succ]
                refine wpAnyT_done (by kernel_rfl) ?_ _
                have hfc7 : Fr [gd] wc w7 := hf5.step hf7 (fun i hi => .inr (own_block HOJ.out (by simpa using hi)).1)
                have HB7 := hide ((HBJ.out.fr hf7 (fun hm => HNB.out gd (by simpa using hm) rfl)).set_ 1 (.slice A9 (RL.length + 1) c9))
                have HOW7 := hide (own_fr hown7 ((Fr.refl [gd] w7).set (p := ⟨gd, 1, none⟩) (.inl (by simp)) (.slice A9 (RL.length + 1) c9)) (fun y hy hm => by
                  have h1 := (own_block hown7 hy).1
                  have h2 := List.mem_singleton.1 hm
                  omega))
                have HTJ2 : Hid ((d.sup.take (j + 1)).map (fun s => (k : Int) - 1 - s) = RL ++ [(k : Int) - 1 - y]) := hide (by rw [HTJ.out, List.map_append, HRL.out]; rfl)
                clear g0 g1 g2 f37 hown7 hg7 hat7
                go_upto_region 30 with (fail)
                go_wp2
                go_roundg (d.sup.length - (j + 1))
                case measure => rw [HM5.out]; omega
                case rel =>
                  refine ⟨j + 1, .slice A9 (RL.length + 1) c9, by omega, by go_num, HB7.out, ?_, hfc7.set (.inl (by simp)) _, rfl⟩
                  rw [HTJ2.out, List.length_append, List.map_append]
                  exact HOW7.out
              · have hji : ¬ (j : Int) < (d.sup.length : Int) := by omega
                have HRL2 : Hid (RL = d.sup.map fun s => (k : Int) - 1 - s) := hide (by rw [← HRL.out, List.take_of_length_le (by omega)])
                obtain ⟨r, hr⟩ : ∃ r, r = k - 1 - q := ⟨_, rfl⟩
                have hri : (k : Int) - 1 - (q : Int) = (r : Int) := by omega
                have hrk : (r : Int) < (k : Int) := by omega
                have hrB : r < B.length := by rw [HBL.out]; omega
                have hgbd : gb ≠ gd := by omega
                have hbk5 := HBK.out.fr hfw5 (by simp)
                obtain ⟨E, hE⟩ : ∃ E, B[r]? = some E := ⟨_, List.getElem?_eq_getElem hrB⟩
                have hcell : ∀ t, t < 3 → wr.cell? ⟨gb, r * 3 + t, none⟩ = (idc E)[t]? := fun t ht => by
                  rw [hbk5.cell, List.getElem?_toArray]
                  exact flat_get (f := idc) idc_len hE ht
                have q0 : wr.cell? ⟨gb, r * 3, none⟩ = some (.int .i64 E.par) := hcell 0 (by omega)
                have q1 : wr.cell? ⟨gb, r * 3 + 1, none⟩ = some E.sv := hcell 1 (by omega)
                have q2 : wr.cell? ⟨gb, r * 3 + 2, none⟩ = some (.int .u64 (E.dl : Int)) := hcell 2 (by omega)
                have f0 : wr.frozen? ⟨gb, r * 3, none⟩ = false := hbk5.frozen _
                have f1 : wr.frozen? ⟨gb, r * 3 + 1, none⟩ = false := hbk5.frozen _
                have f2 : wr.frozen? ⟨gb, r * 3 + 2, none⟩ = false := hbk5.frozen _
                have HB5 := HBJ.out
                have e0 := HB5.cell 0
                have e1 := HB5.cell 1
                have e2 := HB5.cell 2
                simp only [List.getElem?_toArray, List.getElem?_cons_zero, List.getElem?_cons_succ] at e0 e1 e2
                have HK5 := hide hbk5
                have HRR := hide hr
                clear hcell hbk5 hE hr HB5
                have hsz := hfr4.size
                go_wp2
                go_roundg (k - (q + 1))
                case measure => rw [HM.out]; omega
                case rel =>
                  have HFS : Fr [gb] wr (((wr.setCell ⟨gb, r * 3, none⟩ (.int .i64 (revP k d.par))).setCell ⟨gb, r * 3 + 1, none⟩ (.slice Av RL.length cv)).setCell ⟨gb, r * 3 + 2, none⟩ (.int .u64 (d.dl : Int))) := (((Fr.refl _ _).set (.inl (by simp)) _).set (.inl (by simp)) _).set (.inl (by simp)) _
                  refine ⟨q + 1, B.set r (revD k d (.slice Av RL.length cv)), HAPB.out.set (B := wc.heap.size) (fun E hE b hb => Nat.lt_of_lt_of_le (own_block (HOB4.out E hE) hb).2.1 hfwc.size) (fun b hb => (own_block HOJ.out hb).1), by omega, by go_num, by rw [List.length_set]; exact HBL.out, ?_, fun E hE => ?_, fun i e hi he => ?_, (hf4.call hfw5).trans HFS, rfl⟩
                  · rw [← idcs_set hrB (revD k d (.slice Av RL.length cv))]
                    exact ((HK5.out.set_ (r * 3) (.int .i64 (revP k d.par))).set_ (r * 3 + 1) (.slice Av RL.length cv)).set_ (r * 3 + 2) (.int .u64 (d.dl : Int))
                  · have hoff : ∀ E' : ID, OwnSup wr w4.heap.size E' → OwnSup (((wr.setCell ⟨gb, r * 3, none⟩ (.int .i64 (revP k d.par))).setCell ⟨gb, r * 3 + 1, none⟩ (.slice Av RL.length cv)).setCell ⟨gb, r * 3 + 2, none⟩ (.int .u64 (d.dl : Int))) w4.heap.size E' := fun E' h' => own_fr h' HFS (fun b hb hm => by
                      have h1 := (own_block h' hb).1
                      have h2 := List.mem_singleton.1 hm
                      omega)
                    rcases List.mem_or_eq_of_mem_set hE with hE | hE
                    · exact hoff E (own_fr (HOB4.out E hE) hfw5 (fun _ _ => by simp))
                    · rw [hE]
                      refine hoff _ ?_
                      show wr.ownsRow w4.heap.size 3 1 (.slice Av RL.length cv) (d.sup.map fun s => (k : Int) - 1 - s).length ((d.sup.map fun s => (k : Int) - 1 - s).map (Value.int .i64))
                      rw [← HRL2.out]
                      refine own_base HOJ.out (Nat.le_trans hf4.size hfwc.size)
                  · have hr' := HRR.out
                    by_cases e1 : i = q
                    · subst e1
                      rw [HD.out] at he
                      injection he with he
                      subst he
                      exact ⟨_, by rw [← hr']; exact List.getElem?_set_self hrB⟩
                    · have hio := (List.getElem?_eq_some_iff.1 he).1
                      rw [HLO.out] at hio
                      rw [List.getElem?_set_ne (by omega)]
                      exact HBB.out i e (by omega) he
            · obtain rfl : q = k := by omega
              have hn8 : B.length ≤ 8 := by rw [HBL.out]; omega
              go_wp2
              go_ret
              refine ⟨.slice (some ⟨gb, 0, none⟩) q q, B, rfl, ?_, fun x hx => own_base (HOB4.out x hx) hfr4.size, HDEV.out.rev HRK.out (by rw [HBL.out, HLO.out]) (fun i d hd => ?_), HAPB.out, hfr4.step hf4 (fun i hi => .inr (by rw [List.mem_singleton.1 hi]; exact hzw))⟩
              · rw [HBL.out]
                refine ⟨by rw [idcs_length, HBL.out], .inr ⟨gb, q, (idcs B).toArray, rfl, hzw, HBK.out, Nat.le_refl _, by unfold maxLen; omega, by rw [List.size_toArray, idcs_length, HBL.out], ?_⟩⟩
                rw [List.take_of_length_le (by rw [idcs_length, HBL.out]; exact Nat.le_refl _)]
              · have hio := (List.getElem?_eq_some_iff.1 hd).1
                rw [HLO.out] at hio ⊢
                exact HBB.out i d hio hd
end Go.Proofs.Ytbnfdpemfmeldaa

