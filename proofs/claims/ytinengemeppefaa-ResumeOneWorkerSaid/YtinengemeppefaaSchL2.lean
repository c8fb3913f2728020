/- The law ResumeOneWorker, walked. -/
import Derived.Test.YtinengemeppefaaSchL0
import Derived.Test.YtinengemeppefaaSchM3
namespace Go.Proofs.Ytinengemeppefaa
open Go.RowKit

def OneRel (w4 : World) (D : Nat → Nat) (o : List Nat) (N m : Nat) (v i : Value) (wr : World) : Prop := ∃ k : Nat, k ≤ N ∧ v = .int .u64 (((o.take k).map D).sum : Int) ∧ i = .int .i64 k ∧ Fr [] w4 wr ∧ m = N - k
theorem sum_take_succ {D : Nat → Nat} {o : List Nat} {k v : Nat} (h : o[k]? = some v) : ((o.take (k + 1)).map D).sum = ((o.take k).map D).sum + D v := by rw [take_succ_some h]; simp
theorem sum_take_le {D : Nat → Nat} {B : Nat} (hD : ∀ d, D d ≤ B) (o : List Nat) : (o.map D).sum ≤ o.length * B := by
  induction o with
  | nil => simp
  | cons a o ih =>
    have := hD a
    simp only [List.map_cons, List.sum_cons, List.length_cons, Nat.add_mul, Nat.one_mul]
    omega
set_option maxHeartbeats 8000000 in
set_option maxRecDepth 100000 in
theorem oneWorker_walk (n : Int) (A B : Option Addr) (cp cq : Nat) (raw : List (Int × Int)) (d : List Nat) (w : World) (hr : Row w A (pcs raw)) (hm : raw.length ≤ maxLen) (hd : Row w B (d.map uv)) (hdm : d.length ≤ maxLen) :
    Calls Try.prog 7 #[.int .i64 n, .slice A raw.length cp, .slice B d.length cq] w fun e w' => e = .returned (.bool true) ∧ Fr [] w w' := by
  unfold maxLen at hm
  have HR := hide hr
  have HD := hide hd
  clear hr hd
  by_cases h40 : 40 < raw.length
  · have hb : decide ((40 : Int) < (raw.length : Int)) = true := by simp; omega
    go_enter Try.func7, Try.ntmps7
    go_wp2_with fail
    refine (awake31_any w).mono ?_
    rintro e w1 ⟨rfl, hfr⟩
    go_wp2
    go_ret
    exact ⟨rfl, hfr⟩
  · have hb : decide ((40 : Int) < (raw.length : Int)) = false := by simp; omega
    have h40' : raw.length ≤ 40 := by omega
    clear h40 hm
    go_enter Try.func7, Try.ntmps7
    go_wp2_with fail
    refine (graph_any n A cp raw true w HR.out (by omega)).mono ?_
    rintro e w1 ⟨v1, rfl, hown1, hf1⟩
    obtain ⟨A1, c1, rfl, -, hrow1, -⟩ := own_slice hown1
    have hgok := graphM_ok n raw true
    have hN := gNodes_lt n
    generalize graphM n raw true = L at hgok hrow1 ⊢
    generalize gNodes n = N at hN hgok ⊢
    generalize umod n 13 = sh at hgok
    have HLL := hide (ofNs_length L)
    have HG := hide hrow1
    have HGO := hide hgok
    have hgl := hgok.len
    clear hrow1 hown1 hgok
    go_wp2_with fail
    refine (durations_any N B cq d w1 (HD.out.fr0 hf1) (by omega) hdm).mono ?_
    rintro e w2 ⟨v2, rfl, hown2, hf2⟩
    obtain ⟨A2, c2, rfl, -, hrow2, -⟩ := own_slice hown2
    have hul := durM_length N d
    have hcase := case31 (W := 1) HGO.out (by omega) (by omega) hul (fun x hx => Nat.le_trans (durM_le hx) (by decide))
    have hu11 : ∀ x ∈ durM N d, x ≤ 11 := fun x hx => durM_le hx
    generalize durM N d = u at hul hcase hu11 hrow2
    have HUL := hide hul
    have HU := hide hrow2
    have HC := hide hcase
    have HU11 := hide hu11
    have HG2 := hide (HG.out.fr0 hf2)
    have hsch := hcase.sch
    rw [show ((1 : Nat) : Int) = 1 from rfl] at hsch
    clear hrow2 hown2 hcase hu11 HG hul
    have hq := schedule31_any (N : Int) 1 A1 A2 c1 c2 (ofNs L) u w2 HG2.out HU.out (by have := HLL.out; omega)
    rw [HLL.out, HUL.out, hsch] at hq
    clear hsch
    go_wp2_with fail
    refine hq.mono ?_
    clear hq
    rintro e w3 ⟨v3, rfl, hown3, hf3⟩
    obtain ⟨A3, c3, rfl, hcap3, hrow3⟩ := own_slice' hown3
    have HS3 := hide hrow3
    have HG3 := hide (HG2.out.fr0 hf3)
    have HU3 := hide (HU.out.fr0 hf3)
    have hw3 := (hf1.call hf2).call hf3
    have HSLEN := hide HC.out.done.len
    have HCAP := hide hcap3
    clear hrow3 hown3 HG2 HU hf2 hf3 hcap3
    have hq := order_any24 (N : Int) A1 c1 (ofNs L) w3 HG3.out (by have := HLL.out; omega)
    unfold OrderRet at hq
    rw [HLL.out, orderM_good HC.out.basic (by rw [toNs_ofNs]; exact HC.out.full), toNs_ofNs] at hq
    have hone := one_sched (D := durF u) HC.out.lt HC.out.ac
    have hord := greedy_ord N L
    have hof := HC.out.full
    have hspan := HC.out.done.one_span
    have htot := sum_perm (D := durF u) hord.lt hord.nodup hof
    generalize sched N L (durF u) 1 = S at HS3 HSLEN HCAP hone hspan ⊢
    generalize greedy N L = o at hone hord hof htot hq
    have HONE := hide hone
    have HORD := hide hord
    have HOF := hide hof
    have HSP := hide hspan
    have HTOT := hide htot
    clear hone hord hof hspan htot
    go_wp2_with fail
    refine hq.mono ?_
    clear hq
    rintro e w4 ⟨v4, rfl, hown4, hf4⟩
    simp only at hown4 ⊢
    obtain ⟨A4, c4, rfl, -, hrow4, -⟩ := own_slice hown4
    have HO4 := hide hrow4
    have HS4 := hide (HS3.out.fr0 hf4)
    have HU4 := hide (HU3.out.fr0 hf4)
    have hw4 := hw3.call hf4
    have hne1 : ((S.length : Int) != (N : Int)) = false := by simp [HSLEN.out]
    have hne2 : ((o.length : Int) != (N : Int)) = false := by simp [HOF.out]
    clear hrow4 hown4 hf4 HS3 HU3
    go_wp2
    go_loopg [14, 15] N (fun m v i wr => OneRel w4 (durF u) o N m v i wr)
    case atStart => exact ⟨0, by omega, rfl, rfl, Fr.refl _ _, rfl⟩
    case round =>
      obtain ⟨k, hk, rfl, rfl, hfr, hmm⟩ := hrel
      have HM := hide hmm
      clear hmm
      have hsum := sum_take_le (durF_le' HU11.out) (o.take k)
      rw [List.length_take] at hsum
      by_cases hlt : k < N
      · have hko : k < o.length := by have := HOF.out; omega
        obtain ⟨v, hv⟩ : ∃ v, o[k]? = some v := ⟨_, List.getElem?_eq_getElem hko⟩
        have hvN := HORD.out.lt v (List.mem_of_getElem? hv)
        obtain ⟨x, hx⟩ : ∃ x, u[v]? = some x := ⟨_, List.getElem?_eq_getElem (by have := HUL.out; omega)⟩
        have hxl := HU11.out x (List.mem_of_getElem? hx)
        have hDx := durF_get hx
        have hget := oneG_get (durF u) o 0 k v hv
        rw [← HONE.out, hDx] at hget
        have HST := hide (sum_take_succ (D := durF u) hv)
        rw [hDx] at HST
        obtain ⟨ob, oo, e, c0, c1', c2', c3'⟩ := (HS4.out.fr0 hfr).slt hget
        subst e
        obtain ⟨ob2, oo2, e, d0⟩ := (HO4.out.fr0 hfr).at_ (i := k) (u := nv v) (by simp [hv])
        subst e
        obtain ⟨ob3, oo3, e, e0⟩ := (HU4.out.fr0 hfr).uint hx
        subst e
        clear hv hx hDx hget
        simp only [Nat.zero_add] at c0 c1' c2' c3'
        generalize ((o.take k).map (durF u)).sum = t at hsum HST c2' c3' ⊢
        have c3'' : wr.cell? ⟨ob, oo + k * 4 + 3, none⟩ = some (.int .u64 ((t : Int) + (x : Int))) := c3'
        have c1'' : wr.cell? ⟨ob, oo + k * 4 + 1, none⟩ = some (.int .i64 0) := c1'
        have hkl : (k : Int) < (N : Int) := by omega
        have hk2 : (k : Int) < (S.length : Int) := by rw [HSLEN.out]; omega
        have hk3 : (k : Int) < (o.length : Int) := by omega
        have hvl : (v : Int) < (N : Int) := by omega
        have ht2 : (t : Int) ≤ 1000 := by omega
        have b1 : ((v : Int) != (v : Int)) = false := by simp
        have b2 : ((t : Int) != (t : Int)) = false := by simp
        have b3 : ((t : Int) + (x : Int) != (t : Int) + (x : Int)) = false := by simp
        clear hsum c1' c3' hko
        go_wp2
        go_quiet (fail)
        have e0' := Fr.cell ((Fr.refl [] wr).drewN nq) e0 (by simp)
        have d0' := Fr.cell ((Fr.refl [] wr).drewN nq) d0 (by simp)
        have c3''' := Fr.cell ((Fr.refl [] wr).drewN nq) c3'' (by simp)
        go_wp2
        go_roundg (N - (k + 1))
        case measure => rw [HM.out]; omega
        case rel => exact ⟨k + 1, by omega, by rw [HST.out]; rfl, by go_num, hfr.drewN _, rfl⟩
      · have hkl : ¬ (k : Int) < (N : Int) := by omega
        have hto := HTOT.out
        rw [List.take_of_length_le (by have := HOF.out; omega), hto]
        have hq := makespan31_any A3 c3 (S.map toR) wr (by rw [rcells_toR]; exact HS4.out.fr0 hfr) (by have := HSLEN.out; simp; omega)
        rw [List.length_map, mkR_toR, HSP.out] at hq
        generalize sumTo (durF u) N = T at hq ⊢
        have b1 : ((T : Int) == (T : Int)) = true := by simp
        clear hto hsum
        go_wp2_with fail
        refine hq.mono ?_
        clear hq
        rintro e w5 ⟨rfl, hf5⟩
        go_wp2_with fail
        refine (awake31_any _).mono ?_
        rintro e w6 ⟨rfl, hf6⟩
        go_wp2
        go_ret
        exact ⟨rfl, ((hw4.call hfr).call hf5).call hf6⟩
end Go.Proofs.Ytinengemeppefaa
