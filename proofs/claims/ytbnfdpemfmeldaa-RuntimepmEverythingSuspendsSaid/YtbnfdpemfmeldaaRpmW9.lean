/- Walks: the law's play. -/
import Derived.Test.YtbnfdpemfmeldaaRpmL0
namespace Go.Proofs.Ytbnfdpemfmeldaa
open Go.RowKit

def plSt (M : RM) (p : RS × Nat) (c : CL) : RS × Nat := if M.n = 0 then p else ((doC M p.1 (clr c) p.2).1, if (doC M p.1 (clr c) p.2).2.2 = 0 then p.2 + (clr c).wait % 15 else p.2)
/-- The manager and its clock behind the calls. -/
def plM (M : RM) (l : List CL) : RS × Nat := l.foldl (plSt M) (zeroS, 0)
theorem plM_snoc (M : RM) (l : List CL) (c : CL) : plM M (l ++ [c]) = plSt M (plM M l) c := by simp [plM]
structure PlRet (w : World) (out : List ID) (l : List CL) (P : ML) (w' : World) : Prop where
  mg : MgIn w' P (newRM out) (plM (newRM out) l).1
  st : St (newRM out) (plM (newRM out) l).1 (plM (newRM out) l).2 l.length
  now : (plM (newRM out) l).2 ≤ 15 * l.length
  b : w.heap.size ≤ P.b
  g : w.heap.size ≤ P.g
  top : P.top ≤ w'.heap.size
  bot : P.bot = w.heap.size
  fr : Fr [] w w'
def PlEnd (w : World) (out : List ID) (l : List CL) (e : Ending) (w' : World) : Prop := ∃ P : ML, e = .returned (.tuple #[.pointer (some ⟨P.b, 0, none⟩), uv (plM (newRM out) l).2, .bool true]) ∧ PlRet w out l P w'
def PlRel (w3 : World) (P : ML) (out : List ID) (l : List CL) (m : Nat) (t i : Value) (wr : World) : Prop :=
  ∃ (k : Nat) (s : RS) (now : Nat), k ≤ l.length ∧ i = .int .i64 (k : Int) ∧ t = uv now ∧ plM (newRM out) (l.take k) = (s, now) ∧ MgIn wr P (newRM out) s ∧ St (newRM out) s now k ∧ now ≤ 15 * k ∧ Fr [P.b, P.g] w3 wr ∧ m = l.length - k
set_option maxHeartbeats 8000000 in
set_option maxRecDepth 100000 in
theorem play28_any (A5 B : Option Addr) (c5 cq : Nat) (out : List ID) (l : List CL) (w2 : World) (ho : IdsAt w2 A5 out) (hdev : Dev8 out) (hl : Row w2 B (clcs l)) (hl40 : l.length ≤ 40) :
    Calls Try.prog 18 #[.slice A5 out.length c5, .slice B l.length cq] w2 (PlEnd w2 out l) := by
  have HL := hide hl
  have HDEV := hide hdev
  have HO := hide ho
  have ho8 := hdev.len
  clear hl hdev ho
  go_enter Try.func18, Try.ntmps18
  go_wp2_with fail
  refine (new28_ok A5 c5 out w2 HO.out (by omega) (fun x hx => by obtain ⟨i, hi⟩ := List.getElem?_of_mem hx; have := HDEV.out.sl i x hi; omega) HDEV.out.new.1).mono ?_
  rintro e w4 ⟨P, rfl, hin, hb, hg, htop, hf3, hbot⟩
  have HMO := hide HDEV.out.new.2.1
  have HORD := hide HDEV.out.new.2.2.1
  have HIN := hide hin
  have HST := hide (St.zero (newRM out))
  have hlow := hin.low
  clear hin
  go_wp2
  go_loopg [9, 10] l.length (fun m t i wr => PlRel w4 P out l m t i wr)
  case atStart => exact ⟨0, zeroS, 0, by omega, rfl, rfl, rfl, HIN.out, HST.out, by omega, Fr.refl _ _, rfl⟩
  case round =>
    obtain ⟨k, s, now, hk, rfl, rfl, hpl, hin, hst, hnow, hfr, hmm⟩ := hrel
    have HM := hide hmm
    have HPL := hide hpl
    have HINr := hide hin
    have HSTr := hide hst
    have hf2r : Fr [] w2 wr := Fr.two hf3 hfr hb hg
    clear hmm hin hst hpl
    by_cases hlt : k < l.length
    · obtain ⟨c, hc⟩ : ∃ c, l[k]? = some c := ⟨_, List.getElem?_eq_getElem hlt⟩
      obtain ⟨ob, oo, rfl, c0, c1, c2, c3⟩ := (HL.out.fr0 hf2r).cl hc
      have hkl : (k : Int) < (l.length : Int) := by omega
      have hb5 := clr_blk (w := wr) c
      have hf5 := clr_fr (w := wr) c
      have HPS : Hid (plM (newRM out) (l.take (k + 1)) = plSt (newRM out) (s, now) c) := hide (by rw [take_succ_some hc, plM_snoc, HPL.out])
      clear hc
      by_cases hn0 : 0 < out.length
      · have hni : ((out.length : Int) == 0) = false := beq_eq_false_iff_ne.2 (by omega)
        have HPS2 : Hid (plSt (newRM out) (s, now) c = ((doC (newRM out) s (clr c) now).1, if (doC (newRM out) s (clr c) now).2.2 = 0 then now + (clr c).wait % 15 else now)) := hide (by
          unfold plSt
          rw [if_neg (show ¬ (newRM out).n = 0 from by show ¬ out.length = 0; omega)])
        rw [HPS2.out] at HPS
        go_upto_region 10 with (fail)
        generalize wr.alloc (.cells #[.int .i64 c.kind, .int .i64 c.dev, .int .u64 (c.wait : Int), .bool false] 54) = w5 at hb5 hf5 ⊢
        have hgc0 : P.top ≤ wr.heap.size := Nat.le_trans htop hfr.size
        generalize wr.heap.size = gc at hb5 hgc0 ⊢
        have hstep := do_step (M := newRM out) HORD.out HSTr.out (clr c) rfl hn0 (by omega)
        rw [show (newRM out).n = out.length from rfl] at hstep
        obtain ⟨hat, hd, hcs⟩ := hstep
        obtain ⟨R, hR⟩ : ∃ R, R = doC (newRM out) s (clr c) now := ⟨_, rfl⟩
        rw [← hR] at hcs
        have HRD := hide hR
        have HAT := hide hat
        have HCS := hide hcs
        have hlt15 : (clr c).wait % 15 < 15 := Nat.mod_lt _ (by omega)
        clear hR hat hcs
        have e0 : w5.cell? ⟨gc, 0, none⟩ = some (.int .i64 c.kind) := hb5.cell 0
        have e1 : w5.cell? ⟨gc, 1, none⟩ = some (.int .i64 c.dev) := hb5.cell 1
        have e2 : w5.cell? ⟨gc, 2, none⟩ = some (.int .u64 (c.wait : Int)) := hb5.cell 2
        have e3 : w5.cell? ⟨gc, 3, none⟩ = some (.bool false) := hb5.cell 3
        go_wp2_with fail
        refine (at28_any (clr c) out.length now w5 (by omega) (by omega)).mono ?_
        rintro e w6 ⟨rfl, hf6⟩
        rw [HAT.out]
        dsimp only
        have HB6 := hide (hb5.fr hf6 (by simp))
        clear e0 e1 e2 e3 hb5 c0 c1 c2 c3
        have e0 : w6.cell? ⟨gc, 0, none⟩ = some (.int .i64 c.kind) := HB6.out.cell 0
        have e1 : w6.cell? ⟨gc, 1, none⟩ = some (.int .i64 c.dev) := HB6.out.cell 1
        have e2 : w6.cell? ⟨gc, 2, none⟩ = some (.int .u64 (c.wait : Int)) := HB6.out.cell 2
        have e3 : w6.cell? ⟨gc, 3, none⟩ = some (.bool false) := HB6.out.cell 3
        have hf56 := hf5.call hf6
        have HIN6 := hide (HINr.out.fr0 hf56)
        have hz6 := hf56.size
        have hzr := hfr.size
        go_wp2_with fail
        refine (do28_any HIN6.out HMO.out (HSTr.out.sok (by omega) (by omega)) (by omega) (fun i => by have := HSTr.out.use i; omega) (clr c) now (by omega)).mono ?_
        rintro e w7 ⟨v, rfl, hin7, hown7, hf7⟩
        rw [← HRD.out] at hin7 hown7 ⊢
        clear e0 e1 e2 e3
        have HIN7 := hide hin7
        have hfr7 : Fr [P.b, P.g] w4 w7 := (hfr.call hf56).trans hf7
        obtain ⟨A7, c7, rfl, -, -, -⟩ := own_slice hown7
        rw [← HRD.out] at HPS
        clear hin7 hown7 hf7
        rcases HCS.out with ⟨hk2, hu0, hRe⟩ | ⟨hnot, hok, -, hst7, huse⟩
        · rw [hRe] at HIN7 HPS ⊢
          dsimp only at HIN7 HPS ⊢
          rw [if_neg (by decide)] at HPS
          clear hRe hk2 hu0
          go_wp2
          go_roundg (l.length - (k + 1))
          case measure => rw [HM.out]; omega
          case rel => exact ⟨k + 1, s, now, by omega, by go_num, rfl, HPS.out, HIN7.out, ⟨HSTr.out.good, HSTr.out.sin, HSTr.out.clk, fun i => Nat.le_succ_of_le (HSTr.out.use i)⟩, by omega, hfr7, rfl⟩
        · rw [hok] at HPS ⊢
          rw [if_pos rfl] at HPS
          have HST7 := hide hst7
          clear hok hst7 huse hnot
          go_wp2
          go_roundg (l.length - (k + 1))
          case measure => rw [HM.out]; omega
          case rel => exact ⟨k + 1, R.1, now + (clr c).wait % 15, by omega, by go_num, rfl, HPS.out, HIN7.out, HST7.out, by omega, hfr7, rfl⟩
      · have h00 : out.length = 0 := by omega
        have hni : ((out.length : Int) == 0) = true := beq_iff_eq.2 (by omega)
        have HPS2 : Hid (plSt (newRM out) (s, now) c = (s, now)) := hide (by unfold plSt; rw [if_pos (show (newRM out).n = 0 from h00)])
        rw [HPS2.out] at HPS
        go_upto_region 10 with (fail)
        generalize wr.alloc (.cells #[.int .i64 c.kind, .int .i64 c.dev, .int .u64 (c.wait : Int), .bool false] 54) = w5 at hb5 hf5 ⊢
        generalize wr.heap.size = gc at hb5 ⊢
        have e0 : w5.cell? ⟨gc, 0, none⟩ = some (.int .i64 c.kind) := hb5.cell 0
        have e1 : w5.cell? ⟨gc, 1, none⟩ = some (.int .i64 c.dev) := hb5.cell 1
        have e2 : w5.cell? ⟨gc, 2, none⟩ = some (.int .u64 (c.wait : Int)) := hb5.cell 2
        have e3 : w5.cell? ⟨gc, 3, none⟩ = some (.bool false) := hb5.cell 3
        clear h00
        go_wp2_with fail
        refine (at28_any (clr c) out.length now w5 (by omega) (by omega)).mono ?_
        rintro e w6 ⟨rfl, hf6⟩
        have HIN6 := hide (HINr.out.fr0 (hf5.call hf6))
        have hfr6 := (hfr.call hf5).call hf6
        clear e0 e1 e2 e3 hb5 c0 c1 c2 c3
        go_wp2
        go_roundg (l.length - (k + 1))
        case measure => rw [HM.out]; omega
        case rel => exact ⟨k + 1, s, now, by omega, by go_num, rfl, HPS.out, HIN6.out, ⟨HSTr.out.good, HSTr.out.sin, HSTr.out.clk, fun i => Nat.le_succ_of_le (HSTr.out.use i)⟩, by omega, hfr6, rfl⟩
    · have hkl : ¬ (k : Int) < (l.length : Int) := by omega
      obtain rfl : k = l.length := by omega
      rw [List.take_length] at HPL
      have HP1 : Hid ((plM (newRM out) l).1 = s ∧ (plM (newRM out) l).2 = now) := hide (by rw [HPL.out]; exact ⟨rfl, rfl⟩)
      have hz := hfr.size
      clear HPL HM
      go_wp2
      refine bodyPost_ret (v := .tuple #[.pointer (some ⟨P.b, 0, none⟩), uv now, .bool true]) (by simp [results, Try.results18, go_sem]) rfl ?_
      exact ⟨P, by rw [HP1.out.2], ⟨by rw [HP1.out.1]; exact HINr.out, by rw [HP1.out.1, HP1.out.2]; exact HSTr.out, by rw [HP1.out.2]; exact hnow, hb, hg, by omega, hbot, hf2r⟩⟩
end Go.Proofs.Ytbnfdpemfmeldaa
