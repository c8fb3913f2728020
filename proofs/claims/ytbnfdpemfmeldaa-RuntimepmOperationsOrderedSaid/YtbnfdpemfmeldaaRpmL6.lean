/- The law RuntimepmOperationsOrdered, walked. -/
import Derived.Test.YtbnfdpemfmeldaaRpmW10
namespace Go.Proofs.Ytbnfdpemfmeldaa
open Go.RowKit

def OoRel (w4 : World) (P : ML) (out : List ID) (gm : Nat) (l : List CL) (m : Nat) (t la i : Value) (wr : World) : Prop :=
  ∃ (k : Nat) (s : RS) (now last : Nat), k ≤ l.length ∧ i = .int .i64 (k : Int) ∧ t = uv now ∧ la = uv last ∧ MgIn wr P (newRM out) s ∧ St (newRM out) s now k ∧ last ≤ now ∧ now ≤ 1152921504606846976 ∧ (0 < (newRM out).n → now ≤ 15 * k) ∧ Mks wr gm out.length s.act ∧ Fr [P.b, P.g, gm] w4 wr ∧ m = l.length - k
def Oo2 (w7 : World) (gm n : Nat) (on : Nat → Bool) (last : Nat) (ops : List POp) (m : Nat) (la i : Value) (wr : World) : Prop :=
  ∃ j : Nat, j ≤ ops.length ∧ i = .int .i64 (j : Int) ∧ la = uv (lastT last (ops.take j)) ∧ Mks wr gm n (actsF on (ops.take j)) ∧ Fr [gm] w7 wr ∧ m = ops.length - j
def Oo3 (w8 : World) (n : Nat) (m : Nat) (i : Value) (wr : World) : Prop := ∃ j : Nat, j ≤ n ∧ i = .int .i64 (j : Int) ∧ w8 = wr ∧ m = n - j
def Oo4 (w8 : World) (n : Nat) (m : Nat) (i : Value) (wr : World) : Prop := ∃ j : Nat, j ≤ n ∧ i = .int .i64 (j : Int) ∧ Fr [] w8 wr ∧ m = n - j
theorem own_len {w : World} {base : Nat} {e : TypeId} {size : Nat} {v : Value} {n : Nat} {xs : List Value} (h : w.ownsRow base e size v n xs) : n ≤ maxLen := by
  rcases h.2 with ⟨_, h1⟩ | ⟨_, _, _, _, _, _, hn, hc, _⟩
  · rw [h1]; exact Nat.zero_le _
  · exact Nat.le_trans hn hc
theorem Mks.fr' {w w' : World} {g n : Nat} {r : Nat → Bool} (h : Mks w g n r) {T : List Nat} (k : Fr T w w') (hg : g ∉ T) : Mks w' g n r := Blk.fr h k hg
theorem mks_new (w : World) (n : Nat) : Mks (w.alloc (.cells (Array.replicate n (.bool false)) 4)) w.heap.size n (fun _ => false) := by
  have := Blk.new w 4 (Array.replicate n (.bool false))
  unfold Mks
  rw [show ((List.range n).map fun _ => Value.bool false).toArray = Array.replicate n (.bool false) by
    apply Array.ext
    · simp
    · intro i h1 h2; simp]
  exact this
set_option maxHeartbeats 8000000 in
set_option maxRecDepth 100000 in
theorem ordered_walk (A B : Option Addr) (cp cq : Nat) (raw : List ID) (l : List CL) (w : World) (hr : Row w A (idcs raw)) (hw : ∀ x ∈ raw, IdWf w x) (hm : raw.length ≤ maxLen) (hl : Row w B (clcs l)) (hlm : l.length ≤ maxLen) (hlw : ∀ c ∈ l, c.wait ≤ 18446744073709551615) :
    Calls Try.prog 6 #[.slice A raw.length cp, .slice B l.length cq] w fun e w' => e = .returned (.bool true) ∧ Fr [] w w' := by
  have HR : Hid (IdsAt w A raw) := hide ⟨hr, fun x hx => (hw x hx).at_⟩
  have HL := hide hl
  have HLW := hide hlw
  clear hr hw hl hlw
  go_enter Try.func6, Try.ntmps6
  go_wp2_with fail
  refine (large28_any A B cp cq l.length raw w HR.out hm hlm).mono ?_
  rintro e w1 ⟨big, rfl, hlg, rfl⟩
  cases big with
  | true =>
    go_wp2_with fail
    refine (awake28_any w).mono ?_
    rintro e w7 ⟨rfl, hf7⟩
    go_wp2
    go_ret
    exact ⟨rfl, hf7⟩
  | false =>
  obtain ⟨hr20, hl40, hs20⟩ := hlg rfl
  have HS20 := hide hs20
  clear hlg hs20 hm hlm
  go_wp2_with fail
  refine (some28_any A cp raw w HR.out hr20 HS20.out).mono ?_
  rintro e w2 ⟨v2, out, rfl, hown, hsup, hdev, hf2⟩
  obtain ⟨A5, c5, rfl, -, -, -⟩ := own_slice hown
  have HOUT := hide (ids_stay hown hsup)
  have HDEV := hide hdev
  have ho8 := hdev.len
  clear hown hsup hdev
  go_wp2_with fail
  refine (new28_ok A5 c5 out w2 (HOUT.out [] w2 (Fr.refl _ _) (by simp)) (by omega) (fun x hx => by obtain ⟨i, hi⟩ := List.getElem?_of_mem hx; have := HDEV.out.sl i x hi; omega) HDEV.out.new.1).mono ?_
  rintro e w3 ⟨P, rfl, hin, hb, hg, htop, hf3, -⟩
  have HMO := hide HDEV.out.new.2.1
  have HORD := hide HDEV.out.new.2.2.1
  have HIN := hide hin
  have HST := hide (St.zero (newRM out))
  have hlow := hin.low
  clear hin
  have hmk := make_bools out.length out.length (Nat.le_refl _) (by omega) w3
  have hmn := mks_new w3 out.length
  have hf4 : Fr [] w3 (w3.alloc (.cells (Array.replicate out.length (.bool false)) 4)) := (Fr.refl _ _).alloc _
  go_upto_region 8 with (fail)
  clear hmk
  generalize w3.alloc (.cells (Array.replicate out.length (.bool false)) 4) = w4 at hmn hf4 ⊢
  generalize w3.heap.size = gm at hmn htop ⊢
  have HMN := hide hmn
  have HIN4 := hide (HIN.out.fr0 hf4)
  have hf24 := hf3.call hf4
  have hz2 := hf24.size
  have hgml := Blk.lt hmn
  clear hmn HIN hf3 hf4
  go_wp2
  go_loopg [9, 10, 11] l.length (fun m t la i wr => OoRel w4 P out gm l m t la i wr)
  case atStart => exact ⟨0, zeroS, 0, 0, by omega, rfl, rfl, rfl, HIN4.out, HST.out, by omega, by omega, fun _ => by omega, HMN.out, Fr.refl _ _, rfl⟩
  case round =>
    obtain ⟨k, s, now, last, hk, rfl, rfl, rfl, hin, hst, hlast, hnow, hnow1, hmk, hfr, hmm⟩ := hrel
    have HM := hide hmm
    have HINr := hide hin
    have HSTr := hide hst
    have HMKr := hide hmk
    have hf2r : Fr [] w2 wr := hf24.step hfr (fun i hi => .inr (by simp at hi; rcases hi with rfl | rfl | rfl <;> omega))
    have hfwr : Fr [] w wr := hf2.call hf2r
    clear hmm hin hst hmk
    by_cases hlt : k < l.length
    · obtain ⟨c, hc⟩ : ∃ c, l[k]? = some c := ⟨_, List.getElem?_eq_getElem hlt⟩
      obtain ⟨ob, oo, rfl, c0, c1, c2, c3⟩ := (HL.out.fr0 hfwr).cl hc
      have hkl : (k : Int) < (l.length : Int) := by omega
      have hnow15 : 0 < (newRM out).n → now + 15 ≤ 1152921504606846976 := fun h => by have := hnow1 h; omega
      have hb5 := clr_blk (w := wr) c
      have hf5 := clr_fr (w := wr) c
      have HN1 := hide hnow1
      have HN15 := hide hnow15
      clear hc hnow1 hnow15
      go_upto_region 14 with (fail)
      generalize wr.alloc (.cells #[.int .i64 c.kind, .int .i64 c.dev, .int .u64 (c.wait : Int), .bool false] 54) = w5 at hb5 hf5 ⊢
      generalize wr.heap.size = gc at hb5 ⊢
      obtain ⟨now2, hdo⟩ := do_any (M := newRM out) HORD.out HSTr.out (clr c) rfl hnow HN15.out
      rw [show (newRM out).n = out.length from rfl] at hdo
      obtain ⟨R, hR⟩ : ∃ R, R = doC (newRM out) s (clr c) now := ⟨_, rfl⟩
      rw [← hR] at hdo
      have HRD := hide hR
      have HDO := hide hdo
      clear hR hdo
      have e0 : w5.cell? ⟨gc, 0, none⟩ = some (.int .i64 c.kind) := hb5.cell 0
      have e1 : w5.cell? ⟨gc, 1, none⟩ = some (.int .i64 c.dev) := hb5.cell 1
      have e2 : w5.cell? ⟨gc, 2, none⟩ = some (.int .u64 (c.wait : Int)) := hb5.cell 2
      have e3 : w5.cell? ⟨gc, 3, none⟩ = some (.bool false) := hb5.cell 3
      go_wp2_with fail
      refine (at28_any (clr c) out.length now w5 (by omega) hnow).mono ?_
      rintro e w6 ⟨rfl, hf6⟩
      generalize (atM (clr c) out.length now).1 = ad at HDO ⊢
      generalize (atM (clr c) out.length now).2 = tt at HDO ⊢
      have HB6 := hide (hb5.fr hf6 (by simp))
      clear e0 e1 e2 e3 hb5 c0 c1 c2 c3
      have e0 : w6.cell? ⟨gc, 0, none⟩ = some (.int .i64 c.kind) := HB6.out.cell 0
      have e1 : w6.cell? ⟨gc, 1, none⟩ = some (.int .i64 c.dev) := HB6.out.cell 1
      have e2 : w6.cell? ⟨gc, 2, none⟩ = some (.int .u64 (c.wait : Int)) := HB6.out.cell 2
      have e3 : w6.cell? ⟨gc, 3, none⟩ = some (.bool false) := HB6.out.cell 3
      have hf56 := hf5.call hf6
      have HIN6 := hide (HINr.out.fr0 hf56)
      have hz6 := hf56.size
      have hzr := hfr.size
      go_wp2_with fail
      refine (do28_any HIN6.out HMO.out (HSTr.out.sok hnow (by omega)) (by omega) (fun i => by have := HSTr.out.use i; omega) (clr c) now hnow).mono ?_
      rintro e w7 ⟨v, rfl, hin7, hown7, hf7⟩
      rw [← HRD.out] at hin7 hown7 ⊢
      clear e0 e1 e2 e3
      have HIN7 := hide hin7
      have hfr7 : Fr [P.b, P.g, gm] w4 w7 := (hfr.call hf56).trans (hf7.mono (fun y _ hy => by simp at hy ⊢; rcases hy with rfl | rfl <;> simp))
      have HMK7 : Hid (Mks w7 gm out.length s.act) := hide (((HMKr.out.fr' hf56 (by simp))).fr' hf7 (by simp; omega))
      have hopl := own_len hown7
      unfold maxLen at hopl
      obtain ⟨A7, c7, rfl, -, hr7, hb7⟩ := own_slice hown7
      have HR7 := hide hr7
      have HB7 := hide hb7
      have hf27 : Fr [] w2 w7 := hf24.step hfr7 (fun i hi => .inr (by simp at hi; rcases hi with rfl | rfl | rfl <;> omega))
      have hfw7 : Fr [] w w7 := hf2.call hf27
      have HDO2 := hide HDO.out
      clear hin7 hown7 hf7 HRD hr7 hb7
      by_cases he : R.2.2 = 0
      · have HNOW := hide (HDO2.out.ok he)
        obtain ⟨hrun, hact⟩ := HDO2.out.run he last hlast
        have HST7 := hide HDO2.out.st
        have hle := HDO2.out.le
        have HNEAR := hide HDO2.out.near
        obtain ⟨s1, ops, er⟩ := R
        dsimp only at HIN7 HST7 hrun hact he HR7 HB7 hopl ⊢
        subst he
        have HRUN := hide hrun
        have HACT := hide hact
        have hlast2 := hrun.last_le (Nat.le_trans hlast HDO2.out.ge)
        rw [← HNOW.out]
        have hn1 := HN1.out
        clear hrun hact HDO HDO2 hn1
        go_wp2
        go_loopg [10, 17] ops.length (fun m la i wr => Oo2 w7 gm out.length s.act last ops m la i wr)
        case atStart => exact ⟨0, by omega, rfl, rfl, HMK7.out, Fr.refl _ _, rfl⟩
        case round =>
          obtain ⟨j, hj, rfl, rfl, hmk, hf8, hmm⟩ := hrel
          have HM2 := hide hmm
          have HMK8 := hide hmk
          clear hmm hmk
          by_cases hjl : j < ops.length
          · obtain ⟨o, hoo⟩ : ∃ o, ops[j]? = some o := ⟨_, List.getElem?_eq_getElem hjl⟩
            have hok := HRUN.out.at_ hoo
            have HTA : Hid (actsF s.act (ops.take (j + 1)) = setF (actsF s.act (ops.take j)) o.dev o.res ∧ lastT last (ops.take (j + 1)) = o.tm) := hide (by rw [take_succ_some hoo, actsF_snoc, lastT_snoc]; exact ⟨rfl, rfl⟩)
            have hlo := hok.lo
            have hhi := hok.hi
            have hdl : o.dev < out.length := hok.lt
            have HOK := hide hok
            have halt := hok.alt
            generalize actsF s.act (ops.take j) = on at HMK8 HTA HOK halt
            generalize lastT last (ops.take j) = la at HTA HOK hlo ⊢
            obtain ⟨o1, o2, rfl, d0, d1, d2⟩ := (HR7.out.fr hf8 (fun ad e hm => by have := HB7.out ad e; simp at hm; omega)).pop hoo
            have hji : (j : Int) < (ops.length : Int) := by omega
            have hfx : Fr [] wr (wr.alloc (.cells #[.int .i64 (o.dev : Int), .bool o.res, .int .u64 (o.tm : Int)] 47)) := (Fr.refl _ _).alloc _
            have hbx := Blk.new wr 47 #[.int .i64 (o.dev : Int), .bool o.res, .int .u64 (o.tm : Int)]
            clear hoo hok
            go_upto_region 24 with (fail)
            generalize wr.alloc (.cells #[.int .i64 (o.dev : Int), .bool o.res, .int .u64 (o.tm : Int)] 47) = wx at hfx hbx ⊢
            generalize hgx : wr.heap.size = gx at hbx ⊢
            have HGX := hide hgx
            have HBX := hide hbx
            have e0 : wx.cell? ⟨gx, 0, none⟩ = some (.int .i64 (o.dev : Int)) := hbx.cell 0
            have e1 : wx.cell? ⟨gx, 1, none⟩ = some (.bool o.res) := hbx.cell 1
            have e2 : wx.cell? ⟨gx, 2, none⟩ = some (.int .u64 (o.tm : Int)) := hbx.cell 2
            have HMKx := hide (HMK8.out.fr' hfx (by simp))
            have eo := HMKx.out.get hdl
            rw [halt] at eo
            have hd0 : decide ((o.dev : Int) < 0) = false := by simp
            have hd1 : decide ((out.length : Int) ≤ (o.dev : Int)) = false := by simp; omega
            have hd1' : decide (out.length ≤ o.dev) = false := by simp; omega
            have ht1 : decide ((o.tm : Int) < (la : Int)) = false := by simp; omega
            have ht1' : decide (o.tm < la) = false := by simp; omega
            have ht2 : decide ((now2 : Int) < (o.tm : Int)) = false := by simp; omega
            have ht2' : decide (now2 < o.tm) = false := by simp; omega
            have hdi : (o.dev : Int) < (out.length : Int) := by omega
            clear hgx hbx d0 d1 d2
            cases hres : o.res with
            | true =>
              rw [hres] at e1 eo
              go_quiet (fail)
              have hxy : Fr [] wx (wx.drewN nq) := (Fr.refl _ _).drewN nq
              generalize wx.drewN nq = wy at hxy ⊢
              have f0 := hxy.cell e0 (by simp)
              have f1 := hxy.cell e1 (by simp)
              have f2 := hxy.cell e2 (by simp)
              have HMKy := hide (HMKx.out.fr' hxy (by simp))
              have hfy : Fr [gm] w7 wy := (hf8.call hfx).call hxy
              have hf2y : Fr [] w2 wy := hf27.step hfy (fun i hi => .inr (by rw [List.mem_singleton.1 hi]; omega))
              have HIDS : Hid (IdsAt wy A5 out) := hide (HOUT.out [] wy hf2y (by simp))
              have hgmx : gm ≠ gx := Blk.ne_ HMKx.out HBX.out (by decide)
              clear hd0 hd1 hd1' ht1 ht1' ht2 ht2' e0 e1 e2 eo hxy hfx
              go_wp2
              go_loopg [19] out.length (fun m i wq => Oo3 wy out.length m i wq)
              case atStart => exact ⟨0, by omega, rfl, rfl, rfl⟩
              case round =>
                obtain ⟨q, hq, rfl, rfl, hmm⟩ := hrel
                have HM4 := hide hmm
                clear hmm
                by_cases hql : q < out.length
                · have hqi : (q : Int) < (out.length : Int) := by omega
                  have cq' := HMKy.out.get hql
                  obtain ⟨d', hd'⟩ : ∃ d', out[o.dev]? = some d' := ⟨_, List.getElem?_eq_getElem hdl⟩
                  have hnd := needs28_any A5 c5 out wy HIDS.out ho8 (i := o.dev) (d := d') hd' (q : Int) (HDEV.out.sl _ d' hd')
                  obtain ⟨nb, hnb⟩ : ∃ nb, nb = decide (d'.par = (q : Int) ∨ (q : Int) ∈ d'.sup) := ⟨_, rfl⟩
                  rw [← hnb] at hnd
                  have HND := hide hnd
                  have hon : nb = true → on q = true := fun e => by
                    have h1 := of_decide_eq_true (hnb.symm.trans e)
                    have h2 := mem_newL HDEV.out hd' (p := (q : Int)) (h1.imp (fun h => ⟨by omega, h.symm⟩) id)
                    rw [Int.toNat_natCast] at h2
                    exact HOK.out.up _ h2 hres rfl
                  clear hnd hnb hd'
                  obtain ⟨bq, hbq⟩ : ∃ bq, on q = bq := ⟨_, rfl⟩
                  rw [hbq] at cq' hon
                  go_wp2_with fail
                  refine HND.out.mono ?_
                  rintro e w9 ⟨rfl, rfl⟩
                  cases nb with
                  | true =>
                    have hq' := hon rfl
                    rw [hq'] at cq'
                    clear hon hq' hbq
                    go_wp2
                    go_roundg (out.length - (q + 1))
                    case measure => rw [HM4.out]; omega
                    case rel => exact ⟨q + 1, by omega, by go_num, rfl, rfl⟩
                  | false =>
                    clear hon hbq
                    go_wp2
                    go_roundg (out.length - (q + 1))
                    case measure => rw [HM4.out]; omega
                    case rel => exact ⟨q + 1, by omega, by go_num, rfl, rfl⟩
                · have hqi : ¬ (q : Int) < (out.length : Int) := by omega
                  have cd := HMKy.out.get hdl
                  have fd := HMKy.out.frozen o.dev
                  have HMKz : Hid (Mks (wy.setCell ⟨gm, o.dev, none⟩ (.bool true)) gm out.length (actsF s.act (ops.take (j + 1)))) := hide (by rw [HTA.out.1, hres]; exact HMKy.out.set hdl true)
                  have HTM := hide HTA.out.2
                  go_upto_region 31 with (fail)
                  go_region_held3 (fun w' => w'.cell? ⟨gx, 0, none⟩ = some (.int .i64 (o.dev : Int)) ∧ w'.cell? ⟨gx, 1, none⟩ = some (.bool true) ∧ w'.cell? ⟨gx, 2, none⟩ = some (.int .u64 (o.tm : Int))) (go_keep) (fail)
                  all_goals
                    go_wp2
                    go_roundg (ops.length - (j + 1))
                    case measure => rw [HM2.out]; omega
                    case rel => exact ⟨j + 1, by omega, by go_num, by rw [HTM.out], HMKz.out.fr' (T := []) (Fr.refl _ _).drew (by simp), (hfy.set (p := ⟨gm, o.dev, none⟩) (.inl (by simp)) _).drew, rfl⟩
            | false =>
              rw [hres] at e1 eo
              go_quiet (fail)
              have hxy : Fr [] wx (wx.drewN nq) := (Fr.refl _ _).drewN nq
              generalize wx.drewN nq = wy at hxy ⊢
              have f0 := hxy.cell e0 (by simp)
              have f1 := hxy.cell e1 (by simp)
              have f2 := hxy.cell e2 (by simp)
              have HMKy := hide (HMKx.out.fr' hxy (by simp))
              have hfy : Fr [gm] w7 wy := (hf8.call hfx).call hxy
              have hf2y : Fr [] w2 wy := hf27.step hfy (fun i hi => .inr (by rw [List.mem_singleton.1 hi]; omega))
              have HIDS : Hid (IdsAt wy A5 out) := hide (HOUT.out [] wy hf2y (by simp))
              have hgmx : gm ≠ gx := Blk.ne_ HMKx.out HBX.out (by decide)
              clear hd0 hd1 hd1' ht1 ht1' ht2 ht2' e0 e1 e2 eo hxy hfx
              go_wp2
              go_loopg [19] out.length (fun m i wq => Oo3 wy out.length m i wq)
              case atStart => exact ⟨0, by omega, rfl, rfl, rfl⟩
              case round =>
                obtain ⟨q, hq, rfl, rfl, hmm⟩ := hrel
                have HM4 := hide hmm
                clear hmm
                by_cases hql : q < out.length
                · have hqi : (q : Int) < (out.length : Int) := by omega
                  have cq' := HMKy.out.get hql
                  obtain ⟨d', hd'⟩ : ∃ d', out[q]? = some d' := ⟨_, List.getElem?_eq_getElem hql⟩
                  have hnd := needs28_any A5 c5 out wy HIDS.out ho8 (i := q) (d := d') hd' (o.dev : Int) (HDEV.out.sl _ d' hd')
                  obtain ⟨nb, hnb⟩ : ∃ nb, nb = decide (d'.par = (o.dev : Int) ∨ (o.dev : Int) ∈ d'.sup) := ⟨_, rfl⟩
                  rw [← hnb] at hnd
                  have HND := hide hnd
                  have hon : nb = true → on q = false := fun e => by
                    have h1 := of_decide_eq_true (hnb.symm.trans e)
                    have h2 := mem_newL HDEV.out hd' (p := (o.dev : Int)) (h1.imp (fun h => ⟨by omega, h.symm⟩) id)
                    rw [Int.toNat_natCast] at h2
                    exact HOK.out.dn _ h2 hres rfl
                  clear hnd hnb hd'
                  obtain ⟨bq, hbq⟩ : ∃ bq, on q = bq := ⟨_, rfl⟩
                  rw [hbq] at cq' hon
                  go_wp2_with fail
                  refine HND.out.mono ?_
                  rintro e w9 ⟨rfl, rfl⟩
                  cases nb with
                  | true =>
                    have hq' := hon rfl
                    rw [hq'] at cq'
                    clear hon hq' hbq
                    go_wp2
                    go_roundg (out.length - (q + 1))
                    case measure => rw [HM4.out]; omega
                    case rel => exact ⟨q + 1, by omega, by go_num, rfl, rfl⟩
                  | false =>
                    clear hon hbq
                    go_wp2
                    go_roundg (out.length - (q + 1))
                    case measure => rw [HM4.out]; omega
                    case rel => exact ⟨q + 1, by omega, by go_num, rfl, rfl⟩
                · have hqi : ¬ (q : Int) < (out.length : Int) := by omega
                  have cd := HMKy.out.get hdl
                  have fd := HMKy.out.frozen o.dev
                  have HMKz : Hid (Mks (wy.setCell ⟨gm, o.dev, none⟩ (.bool false)) gm out.length (actsF s.act (ops.take (j + 1)))) := hide (by rw [HTA.out.1, hres]; exact HMKy.out.set hdl false)
                  have HTM := hide HTA.out.2
                  go_upto_region 31 with (fail)
                  go_region_held3 (fun w' => w'.cell? ⟨gx, 0, none⟩ = some (.int .i64 (o.dev : Int)) ∧ w'.cell? ⟨gx, 1, none⟩ = some (.bool false) ∧ w'.cell? ⟨gx, 2, none⟩ = some (.int .u64 (o.tm : Int))) (go_keep) (fail)
                  all_goals
                    go_wp2
                    go_roundg (ops.length - (j + 1))
                    case measure => rw [HM2.out]; omega
                    case rel => exact ⟨j + 1, by omega, by go_num, by rw [HTM.out], HMKz.out.fr' (T := []) (Fr.refl _ _).drew (by simp), (hfy.set (p := ⟨gm, o.dev, none⟩) (.inl (by simp)) _).drew, rfl⟩
          · have hji : ¬ (j : Int) < (ops.length : Int) := by omega
            rw [List.take_of_length_le (by omega), ← HACT.out] at HMK8
            rw [List.take_of_length_le (by omega)]
            have HIN8 := hide (HIN7.out.fr hf8 (fun i hi => by rw [List.mem_singleton.1 hi]; exact htop))
            have hfr8 : Fr [P.b, P.g, gm] w4 wr := hfr7.trans (hf8.mono (fun y _ hy => by simp at hy ⊢; exact .inr (.inr hy)))
            have HLA := hide hlast2
            generalize lastT last ops = la at HLA ⊢
            obtain ⟨wz, hwz⟩ : ∃ wz, wz = wr := ⟨_, rfl⟩
            subst hwz
            go_wp2
            go_loopg [20] out.length (fun m i wq => Oo4 wz out.length m i wq)
            case atStart => exact ⟨0, by omega, rfl, Fr.refl _ _, rfl⟩
            case round =>
              obtain ⟨q, hq, rfl, hf9, hmm⟩ := hrel
              have HM5 := hide hmm
              clear hmm
              by_cases hql : q < out.length
              · have hqi : (q : Int) < (out.length : Int) := by omega
                have hjk : (0 : Int) ≤ (q : Int) ∧ (q : Int) < ((newRM out).n : Int) := ⟨by omega, hqi⟩
                have cq' := (HMK8.out.fr' hf9 (by simp)).get hql
                have hac := active28_any ((HIN8.out.fr0 hf9).fr0 ((Fr.refl [] wr).drew)) (q : Int)
                rw [decide_eq_true hjk, Int.toNat_natCast, Bool.true_and] at hac
                have HAC := hide hac
                have hne : (s1.act q != s1.act q) = false := by simp
                clear hac hjk
                go_upto_region 35 with (fail)
                go_region_held3 (fun w' => w'.cell? ⟨gm, q, none⟩ = some (.bool (s1.act q))) (go_keep) (first | (go_at_call 25; refine HAC.out.mono ?_; rintro e w' ⟨rfl, rfl⟩))
                all_goals
                  go_wp2
                  go_roundg (out.length - (q + 1))
                  case measure => rw [HM5.out]; omega
                  case rel => exact ⟨q + 1, by omega, by go_num, hf9.drew, rfl⟩
              · have hqi : ¬ (q : Int) < (out.length : Int) := by omega
                have HIN9 := hide (HIN8.out.fr0 hf9)
                have HMK9 := hide (HMK8.out.fr' hf9 (by simp))
                have hfr9 := hfr8.trans (hf9.mono (fun y _ hy => by cases hy))
                have hn1 := HN1.out
                have hnear := HNEAR.out
                have HNN : Hid (0 < (newRM out).n → now2 ≤ 15 * (k + 1)) := hide (fun h => by have := hn1 h; have := hnear h; omega)
                have hla := HLA.out
                clear hn1 hnear
                go_wp2
                go_roundg (l.length - (k + 1))
                case measure => rw [HM.out]; omega
                case rel => exact ⟨k + 1, s1, now2, la, by omega, by go_num, rfl, rfl, HIN9.out, HST7.out, hla, hle, HNN.out, HMK9.out, hfr9, rfl⟩
      · have hne : (R.2.2 != 0) = true := by simpa using he
        obtain ⟨hn2, hops, hact⟩ := HDO2.out.bad he
        have HST7 := hide HDO2.out.st
        rw [hn2] at HST7
        obtain ⟨s1, ops, er⟩ := R
        dsimp only at HIN7 HST7 hops hact hne ⊢
        subst hops
        rw [← hact] at HMK7
        have hn1 := HN1.out
        have HNN : Hid (0 < (newRM out).n → now ≤ 15 * (k + 1)) := hide (fun h => by have := hn1 h; omega)
        clear he hact hn1 hn2 HDO HDO2
        go_wp2
        go_roundg (l.length - (k + 1))
        case measure => rw [HM.out]; omega
        case rel => exact ⟨k + 1, s1, now, last, by omega, by go_num, rfl, rfl, HIN7.out, HST7.out, hlast, hnow, HNN.out, HMK7.out, hfr7, rfl⟩
    · have hkl : ¬ (k : Int) < (l.length : Int) := by omega
      go_wp2_with fail
      refine (awake28_any wr).mono ?_
      rintro e w7 ⟨rfl, hf7⟩
      go_wp2
      go_ret
      exact ⟨rfl, hfwr.call hf7⟩
end Go.Proofs.Ytbnfdpemfmeldaa
