/- Walks over the reference of layer 24: Matrix. -/
import Derived.Test.YtinengemeppefaaGraR1Mg
import Derived.Test.YtinengemeppefaaGraM3Mg
import Derived.Test.YtinengemeppefaaMatMg
import Derived.Deep.Cut
import Derived.Deep.CutBlock
import Derived.Deep.RegionHeld3
namespace Go.Proofs.Ytinengemeppefaa
open Go.RowKit

def MxRel1 (w : World) (g n : Nat) (m : Nat) (i : Value) (wr : World) : Prop := ∃ k : Nat, k ≤ n ∧ i = .int .i64 k ∧ MatTo wr w.heap.size g n k ∧ Fr [] w wr ∧ m = n - k
def MxRel2 (w : World) (g n : Nat) (l : List (Int × Int)) (m : Nat) (i : Value) (wr : World) : Prop := ∃ k : Nat, k ≤ l.length ∧ i = .int .i64 k ∧ MatAt wr w.heap.size g n (fun a b => decide ((a, b) ∈ toNs (l.take k))) ∧ Fr [] w wr ∧ m = l.length - k
def MxRel3 (w : World) (g n : Nat) (L : List (Nat × Nat)) (m : Nat) (i : Value) (wr : World) : Prop := ∃ k : Nat, k ≤ n ∧ i = .int .i64 k ∧ MatAt wr w.heap.size g n (wmat L k) ∧ Fr [] w wr ∧ m = n - k
def MxRel4 (w : World) (g n : Nat) (L : List (Nat × Nat)) (k : Nat) (m : Nat) (i : Value) (wr : World) : Prop := ∃ a : Nat, a ≤ n ∧ i = .int .i64 a ∧ MatAt wr w.heap.size g n (wmid L k a 0) ∧ Fr [] w wr ∧ m = n - a
def MxRel5 (w : World) (g n : Nat) (L : List (Nat × Nat)) (k a : Nat) (m : Nat) (i : Value) (wr : World) : Prop := ∃ b : Nat, b ≤ n ∧ i = .int .i64 b ∧ MatAt wr w.heap.size g n (wmid L k a b) ∧ Fr [] w wr ∧ m = n - b
def MatRet (w : World) (n : Nat) (L : List (Nat × Nat)) (e : Ending) (w' : World) : Prop := ∃ g, e = .returned (.slice (some ⟨g, 0, none⟩) n n) ∧ MatAt w' w.heap.size g n (wmat L n) ∧ Fr [] w w'

set_option maxHeartbeats 4000000 in
theorem rmatrix_any (n : Nat) (A : Option Addr) (cp : Nat) (l : List (Int × Int)) (w : World) (hr : Row w A (pcs l)) (hok : LinksOk n l) :
    Calls Try.prog 49 #[.int .i64 n, .slice A l.length cp] w (MatRet w n (toNs l)) := by
  have HR := hide hr
  have hl1 : l.length ≤ 1024 := hok.2.2.1
  have hn1 : n ≤ 128 := by have := hok.2.1; omega
  have HOK := hide hok.2.2.2
  have hmk := make_rows n n (Nat.le_refl _) (by omega)
  have hmb := make_bools n n (Nat.le_refl _) (by omega)
  have hnew := MatTo.nil (base := w.heap.size) w n (Nat.le_refl _)
  have hfr0 : Fr [] w (w.alloc (.cells (Array.replicate n (.slice none 0 0)) 60)) := (Fr.refl _ _).alloc _
  clear hr hok
  go_enter Try.func49, Try.ntmps49
  go_wp2
  generalize (w.alloc (.cells (Array.replicate n (.slice none 0 0)) 60)) = w1 at hnew hfr0 ⊢
  obtain ⟨g, hg⟩ : ∃ g, g = w.heap.size := ⟨_, rfl⟩
  have hgw : w.heap.size ≤ g := by omega
  rw [← hg] at ⊢
  have hnew' : MatTo w1 w.heap.size g n 0 := by rw [hg]; exact hnew
  clear hg hmk hnew
  go_loopg [6] n (fun m i wr => MxRel1 w g n m i wr)
  case atStart => exact ⟨0, by omega, rfl, hnew', hfr0, rfl⟩
  case round =>
    clear hnew' hfr0
    obtain ⟨k, hk, rfl, hmt, hfr, hmm⟩ := hrel
    have HM := hide hmm
    clear hmm
    by_cases hlt : k < n
    · have hkl : (k : Int) < (n : Int) := by omega
      obtain ⟨c1, c2, hst, -, hgl⟩ := hmt.step hlt hfr.size
      have HST := hide hst
      clear hmt hst hgl
      go_wp2
      go_roundg (n - (k + 1))
      case measure => rw [HM.out]; omega
      case rel => exact ⟨k + 1, by omega, by go_num, HST.out, (hfr.alloc _).set (.inr hgw) _, rfl⟩
    · obtain rfl : k = n := by omega
      have hmat := hmt.full
      have HMAT := hide hmat
      clear hmt hmat hmb HM
      go_wp2
      go_loopg [7] l.length (fun m i wr => MxRel2 w g k l m i wr)
      case atStart => exact ⟨0, by omega, rfl, HMAT.out.congr (fun a b _ _ => by simp [toNs]), hfr, rfl⟩
      case round =>
        clear HMAT hfr
        obtain ⟨i, hi, rfl, hmat, hfr, hmm⟩ := hrel
        have HM := hide hmm
        have HMAT := hide hmat
        clear hmm hmat
        by_cases hlt2 : i < l.length
        · obtain ⟨p, hp⟩ : ∃ p, l[i]? = some p := ⟨_, List.getElem?_eq_getElem hlt2⟩
          obtain ⟨ob, oo, e, c1, c2⟩ := HR.out.link hp
          have hob : ob < w.heap.size := World.block_lt_of_cell? w _ c1
          replace c1 := hfr.cell c1 (by simp)
          replace c2 := hfr.cell c2 (by simp)
          subst e
          have hpo := HOK.out p (List.mem_of_getElem? hp)
          have HP := hide (take_succ_some hp)
          clear hp
          have hil : (i : Int) < (l.length : Int) := by omega
          obtain ⟨c, s⟩ := p
          simp only at c1 c2
          unfold LinkOk at hpo
          simp only at hpo
          obtain ⟨q1, q2, q3, q4⟩ := hpo
          obtain ⟨c, rfl⟩ := Int.eq_ofNat_of_zero_le q1
          obtain ⟨s, rfl⟩ := Int.eq_ofNat_of_zero_le q3
          obtain ⟨b, h1, h2, h3, h4, h5, h6, hput⟩ := HMAT.out.at_ (show c < k by omega)
          have h7 := h2 s (by omega)
          have h8 := h3 s
          have HPUT := hide (hput s true)
          have hbo : ob ≠ b := by omega
          have hgb : g ≠ b := fun e => h6 e.symm
          clear hput h2 h3 h6
          go_wp2
          go_region_held3 (fun w' => w'.cell? ⟨ob, oo + i * 2, none⟩ = some (.int .i64 (c : Int)) ∧ w'.cell? ⟨ob, oo + i * 2 + 1, none⟩ = some (.int .i64 (s : Int)) ∧ w'.cell? ⟨g, c, none⟩ = some (.slice (some ⟨b, 0, none⟩) k k)) (first | exact ⟨c1, c2, h1⟩ | exact ⟨Fr.cell ((Fr.refl [b] wr).set (.inl (by simp)) _).drew c1 (by simpa using hbo), Fr.cell ((Fr.refl [b] wr).set (.inl (by simp)) _).drew c2 (by simpa using hbo), Fr.cell ((Fr.refl [b] wr).set (.inl (by simp)) _).drew h1 (by simpa using hgb)⟩ | go_keep) (fail)
          go_wp2
          go_roundg (l.length - (i + 1))
          case measure => rw [HM.out]; omega
          case rel =>
            refine ⟨i + 1, by omega, by go_num, ?_, (hfr.set (.inr h4) _).drew, rfl⟩
            refine (HPUT.out.fr0 (Fr.refl [] _).drew).congr (fun x y _ _ => ?_)
            rw [HP.out]
            simp only [toNs, List.map_append, List.map_cons, List.map_nil, List.mem_append, List.mem_singleton, toN, Prod.mk.injEq, Int.toNat_natCast]
            by_cases e : x = c ∧ y = s
            · simp [e]
            · simp [e]
        · obtain rfl : i = l.length := by omega
          have hmat := HMAT.out
          rw [List.take_length] at hmat
          obtain ⟨L, hL⟩ : ∃ L, L = toNs l := ⟨_, rfl⟩
          rw [← hL] at hmat
          have HL := hide hL
          clear hL
          have HMX := hide hmat
          clear hmat HMAT HM
          go_wp2
          go_loopg [8] k (fun m i wr => MxRel3 w g k L m i wr)
          case atStart => exact ⟨0, by omega, rfl, HMX.out, hfr, rfl⟩
          case round =>
            clear HMX hfr
            obtain ⟨t, ht, rfl, hmat, hfr, hmm⟩ := hrel
            have HM := hide hmm
            have HMAT := hide hmat
            clear hmm hmat
            by_cases hlt3 : t < k
            · have htl : (t : Int) < (k : Int) := by omega
              go_wp2
              go_loopg [9] k (fun m i wr => MxRel4 w g k L t m i wr)
              case atStart => exact ⟨0, by omega, rfl, HMAT.out.congr (fun a b _ _ => by simp [wmid]), hfr, rfl⟩
              case round =>
                clear HMAT hfr
                obtain ⟨a, ha, rfl, hmat, hfr, hmm⟩ := hrel
                have HM4 := hide hmm
                have HMAT := hide hmat
                clear hmm hmat
                by_cases hlt4 : a < k
                · have hal : (a : Int) < (k : Int) := by omega
                  obtain ⟨b, h1, h2, h3, h4, h5, h6, hput⟩ := HMAT.out.at_ hlt4
                  have h7 := h2 t (by omega)
                  rw [wmid_col] at h7
                  clear h2 h3 h4 h5 h6 hput
                  cases hx : wmat L t a t with
                  | false =>
                    rw [hx] at h7
                    have HX := hide hx
                    clear hx
                    go_wp2
                    go_roundg (k - (a + 1))
                    case measure => rw [HM4.out]; omega
                    case rel =>
                      refine ⟨a + 1, by omega, by go_num, ?_, hfr, rfl⟩
                      refine HMAT.out.congr (fun x y _ _ => ?_)
                      unfold wmid
                      by_cases e : x = a
                      · subst e
                        simp [wmat, HX.out]
                      · by_cases e2 : x < a
                        · have : x < a + 1 := by omega
                          simp [e2, this]
                        · have : ¬ x < a + 1 := by omega
                          simp [e, e2, this]
                  | true =>
                    rw [hx] at h7
                    have HX := hide hx
                    clear hx
                    go_wp2
                    go_loopg [10] k (fun m i wr => MxRel5 w g k L t a m i wr)
                    case atStart => exact ⟨0, by omega, rfl, HMAT.out, hfr, rfl⟩
                    case round =>
                      clear HMAT hfr h1 h7
                      obtain ⟨y, hy, rfl, hmat, hfr, hmm⟩ := hrel
                      have HM5 := hide hmm
                      have HMAT := hide hmat
                      clear hmm hmat
                      by_cases hlt5 : y < k
                      · have hyl : (y : Int) < (k : Int) := by omega
                        obtain ⟨b, h1, h2, h3, h4, h5, h6, hput⟩ := HMAT.out.at_ hlt3
                        have h7 := h2 y (by omega)
                        rw [wmid_row] at h7
                        clear h2 h3 h4 h5 h6 hput
                        have hstep : ∀ x z, wmid L t a (y + 1) x z = if x = a ∧ z = y then (wmat L t a y || wmat L t t y) else wmid L t a y x z := fun x z => by
                          unfold wmid
                          by_cases e : x = a
                          · subst e
                            by_cases e2 : z = y
                            · subst e2
                              simp [wmat, HX.out]
                            · by_cases e3 : z < y
                              · have : z < y + 1 := by omega
                                simp [e2, e3, this]
                              · have : ¬ z < y + 1 := by omega
                                simp [e2, e3, this]
                          · by_cases e2 : x < a <;> simp [e, e2]
                        have HSTEP := hide hstep
                        clear hstep
                        cases hz : wmat L t t y with
                        | false =>
                          rw [hz] at h7
                          have HZ := hide hz
                          clear hz
                          go_wp2
                          go_roundg (k - (y + 1))
                          case measure => rw [HM5.out]; omega
                          case rel =>
                            refine ⟨y + 1, by omega, by go_num, HMAT.out.congr (fun x z _ _ => ?_), hfr, rfl⟩
                            rw [HSTEP.out, HZ.out]
                            by_cases e : x = a ∧ z = y
                            · obtain ⟨rfl, rfl⟩ := e
                              simp [wmid]
                            · simp [e]
                        | true =>
                          rw [hz] at h7
                          obtain ⟨b2, g1, g2, g3, g4, g5, g6, hput⟩ := HMAT.out.at_ hlt4
                          have g7 := g2 y (by omega)
                          have g8 := g3 y
                          have HPUT := hide (hput y true)
                          have HZ := hide hz
                          clear hz g2 g3 g6 hput
                          go_wp2
                          go_roundg (k - (y + 1))
                          case measure => rw [HM5.out]; omega
                          case rel =>
                            refine ⟨y + 1, by omega, by go_num, HPUT.out.congr (fun x z _ _ => ?_), hfr.set (.inr g4) _, rfl⟩
                            rw [HSTEP.out, HZ.out]
                            by_cases e : x = a ∧ z = y <;> simp [e]
                      · have hyl : ¬ (y : Int) < (k : Int) := by omega
                        go_wp2
                        go_roundg (k - (a + 1))
                        case measure => rw [HM4.out]; omega
                        case rel =>
                          refine ⟨a + 1, by omega, by go_num, HMAT.out.congr (fun x z hx hz => ?_), hfr, rfl⟩
                          unfold wmid
                          by_cases e : x = a
                          · subst e
                            have : z < y := by omega
                            simp [this]
                          · by_cases e2 : x < a
                            · have : x < a + 1 := by omega
                              simp [e2, this]
                            · have : ¬ x < a + 1 := by omega
                              simp [e, e2, this]
                · have hal : ¬ (a : Int) < (k : Int) := by omega
                  go_wp2
                  go_roundg (k - (t + 1))
                  case measure => rw [HM.out]; omega
                  case rel =>
                    refine ⟨t + 1, by omega, by go_num, HMAT.out.congr (fun x z hx hz => ?_), hfr, rfl⟩
                    have : x < a := by omega
                    simp [wmid, this]
            · obtain rfl : t = k := by omega
              go_wp2
              go_ret
              exact ⟨g, rfl, by rw [← HL.out]; exact HMAT.out, hfr⟩
end Go.Proofs.Ytinengemeppefaa

