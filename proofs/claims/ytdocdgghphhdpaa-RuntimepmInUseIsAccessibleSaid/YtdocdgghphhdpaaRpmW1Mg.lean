/- Walks: exists, permitted, expiry, idle, first. -/
import Derived.Test.YtdocdgghphhdpaaMgRpInUse16
namespace Go.Proofs.Ytdocdgghphhdpaa
open Go.RowKit

section
variable {w : World} {P : ML} {M : RM} {s : RS}
set_option maxHeartbeats 1000000 in
theorem exists28_any (h : MgIn w P M s) (d : Int) : Calls Try.prog 82 #[.pointer (some ⟨P.b, 0, none⟩), .int .i64 d] w fun e w' => e = .returned (.bool (decide (0 ≤ d ∧ d < M.n))) ∧ w = w' := by
  have c0 : w.cell? ⟨P.b, 0, none⟩ = some (.slice (some ⟨P.g, 0, none⟩) M.n P.cg) := h.blk.cell 0
  clear h
  by_cases h0 : 0 ≤ d
  · have hd : decide (0 ≤ d ∧ d < M.n) = decide (d < M.n) := by simp [h0]
    have HD := hide hd
    clear hd
    go_enter Try.func82, Try.ntmps82
    go_wp2
    go_ret
    exact ⟨ret_bool HD.out.symm, rfl⟩
  · have hd : decide (0 ≤ d ∧ d < M.n) = false := by simp; omega
    have HD := hide hd
    clear hd
    go_enter Try.func82, Try.ntmps82
    go_wp2
    go_ret
    exact ⟨ret_bool (by first | rfl | (rw [HD.out]) | (rw [Bool.eq_iff_iff]; simp; omega)), rfl⟩
set_option maxHeartbeats 1000000 in
theorem permitted28_any (h : MgIn w P M s) (t : Nat) : Calls Try.prog 83 #[.pointer (some ⟨P.b, 0, none⟩), uv t] w fun e w' => e = .returned (.bool (decide (s.clk ≤ t ∧ t ≤ 1152921504606846976))) ∧ w = w' := by
  have c0 : w.cell? ⟨P.b, 2, none⟩ = some (.int .u64 (s.clk : Int)) := h.blk.cell 2
  clear h
  by_cases h0 : s.clk ≤ t
  · have hd : decide (s.clk ≤ t ∧ t ≤ 1152921504606846976) = decide ((t : Int) ≤ 1152921504606846976) := by rw [decide_eq_decide]; omega
    have HD := hide hd
    have h0' : (s.clk : Int) ≤ (t : Int) := by omega
    clear hd
    go_enter Try.func83, Try.ntmps83
    go_wp2
    go_ret
    exact ⟨ret_bool HD.out.symm, rfl⟩
  · have hd : decide (s.clk ≤ t ∧ t ≤ 1152921504606846976) = false := by simp; omega
    have HD := hide hd
    have h0' : ¬ (s.clk : Int) ≤ (t : Int) := by omega
    clear hd
    go_enter Try.func83, Try.ntmps83
    go_wp2
    go_ret
    exact ⟨ret_bool (by first | rfl | (rw [HD.out]) | (rw [Bool.eq_iff_iff]; simp; omega)), rfl⟩
set_option maxHeartbeats 1000000 in
theorem expiry28_any (h : MgIn w P M s) (hM : MOk M) (hs : SOk M s) {i : Nat} (hi : i < M.n) : Calls Try.prog 121 #[.pointer (some ⟨P.b, 0, none⟩), .int .i64 (i : Int)] w fun e w' => e = .returned (uv (exy M s i)) ∧ Fr [] w w' := by
  have c0 : w.cell? ⟨P.b, 0, none⟩ = some (.slice (some ⟨P.g, 0, none⟩) M.n P.cg) := h.blk.cell 0
  have c2 : w.cell? ⟨P.g, i * 6 + 2, none⟩ = some (.int .u64 (M.dl i : Int)) := h.cell hi (by omega)
  have c5 : w.cell? ⟨P.g, i * 6 + 5, none⟩ = some (.int .u64 (s.sin i : Int)) := h.cell hi (by omega)
  have hii : (i : Int) < (M.n : Int) := by omega
  have HX : Hid (IntKind.u64.wrap ((s.sin i : Int) + (M.dl i : Int)) = (exy M s i : Int)) := hide (by
    have h1 := hs.sin i
    have h2 := hM.dl i
    unfold exy
    simp only [IntKind.wrap, IntKind.signed, IntKind.bits]
    simp
    omega)
  clear h hM hs
  go_enter Try.func121, Try.ntmps121
  go_wp2
  go_quiet (fail)
  go_wp2
  go_ret
  exact ⟨ret_int HX.out, (Fr.refl _ _).drewN _⟩
def IdRel (w : World) (M : RM) (s : RS) (i : Nat) (m : Nat) (k : Value) (wr : World) : Prop := ∃ j : Nat, j ≤ (conL M.L i).length ∧ k = .int .i64 (j : Int) ∧ (∀ c ∈ (conL M.L i).take j, s.act c = false) ∧ Fr [] w wr ∧ m = (conL M.L i).length - j
set_option maxHeartbeats 4000000 in
theorem idle28_any (h : MgIn w P M s) (hM : MOk M) {i : Nat} (hi : i < M.n) : Calls Try.prog 85 #[.pointer (some ⟨P.b, 0, none⟩), .int .i64 (i : Int)] w fun e w' => e = .returned (.bool (idl M s i)) ∧ Fr [] w w' := by
  have c0 : w.cell? ⟨P.b, 0, none⟩ = some (.slice (some ⟨P.g, 0, none⟩) M.n P.cg) := h.blk.cell 0
  obtain ⟨A1, k1, e1, -, -⟩ := h.sup i hi
  obtain ⟨A2, k2, e2, r2, -⟩ := h.con i hi
  have d0 : w.cell? ⟨P.g, i * 6, none⟩ = some (.slice A1 (supL M.L i).length k1) := by rw [← e1]; exact h.cell (j := 0) hi (by omega)
  have d1 : w.cell? ⟨P.g, i * 6 + 1, none⟩ = some (.slice A2 (conL M.L i).length k2) := by rw [← e2]; exact h.cell hi (by omega)
  have d2 : w.cell? ⟨P.g, i * 6 + 2, none⟩ = some (.int .u64 (M.dl i : Int)) := h.cell hi (by omega)
  have d3 : w.cell? ⟨P.g, i * 6 + 3, none⟩ = some (.bool (s.act i)) := h.cell hi (by omega)
  have d4 : w.cell? ⟨P.g, i * 6 + 4, none⟩ = some (.int .i64 (s.use i : Int)) := h.cell hi (by omega)
  have d5 : w.cell? ⟨P.g, i * 6 + 5, none⟩ = some (.int .u64 (s.sin i : Int)) := h.cell hi (by omega)
  have hii : (i : Int) < (M.n : Int) := by omega
  have HR := hide r2
  have HH := hide h
  have HL := hide hM.L
  have hcl : (conL M.L i).length ≤ 1024 := Nat.le_trans (conL_len _ _) hM.len
  have HI : Hid (idl M s i = (s.act i && (s.use i == 0 && (conL M.L i).all fun c => !s.act c))) := hide rfl
  have hfa := (Fr.refl [] w).alloc (.cells #[.slice A1 (supL M.L i).length k1, .slice A2 (conL M.L i).length k2, .int .u64 (M.dl i : Int), .bool (s.act i), .int .i64 (s.use i : Int), .int .u64 (s.sin i : Int)] 153)
  clear h e1 e2 r2 hM
  cases ha : s.act i with
  | false =>
    rw [ha] at HI d3 hfa
    go_enter Try.func85, Try.ntmps85
    go_wp2
    go_ret
    exact ⟨ret_bool (by rw [HI.out]; rfl), hfa⟩
  | true =>
    rw [ha, Bool.true_and] at HI
    rw [ha] at d3 hfa
    by_cases hu : s.use i = 0
    · have hu' : ¬ (0 : Int) < (s.use i : Int) := by omega
      have hu2 : (s.use i == 0) = true := by simp [hu]
      rw [hu2, Bool.true_and] at HI
      clear hu hu2
      have cc : (w.alloc (.cells #[.slice A1 (supL M.L i).length k1, .slice A2 (conL M.L i).length k2, .int .u64 (M.dl i : Int), .bool true, .int .i64 (s.use i : Int), .int .u64 (s.sin i : Int)] 153)).cell? ⟨w.heap.size, 1, none⟩ = some (.slice A2 (conL M.L i).length k2) := (Blk.new w _ _).cell 1
      clear cc
      go_enter Try.func85, Try.ntmps85
      go_wp2
      generalize (w.alloc (.cells #[.slice A1 (supL M.L i).length k1, .slice A2 (conL M.L i).length k2, .int .u64 (M.dl i : Int), .bool true, .int .i64 (s.use i : Int), .int .u64 (s.sin i : Int)] 153)) = w1 at hfa ⊢
      clear d0 d1 d2 d3 d4 d5 c0
      go_loopg [26] (conL M.L i).length (fun m k wr => IdRel w1 M s i m k wr)
      case atStart => exact ⟨0, by omega, rfl, by simp, Fr.refl _ _, rfl⟩
      case round =>
        obtain ⟨j, hj, rfl, hall, hfr, hmm⟩ := hrel
        have HM := hide hmm
        have HALL := hide hall
        clear hmm hall
        by_cases hlt : j < (conL M.L i).length
        · obtain ⟨c, hc⟩ : ∃ c, (conL M.L i)[j]? = some c := ⟨_, List.getElem?_eq_getElem hlt⟩
          obtain ⟨ob, oo, rfl, q1⟩ := ((HR.out.fr0 hfa).fr0 hfr).at_ (i := j) (u := nv c) (by rw [List.getElem?_map, hc]; rfl)
          have hcn : c < M.n := (HL.out _ (mem_conL.1 (List.mem_of_getElem? hc))).1
          have c0 : wr.cell? ⟨P.b, 0, none⟩ = some (.slice (some ⟨P.g, 0, none⟩) M.n P.cg) := ((HH.out.fr0 hfa).fr0 hfr).blk.cell 0
          have cc : wr.cell? ⟨P.g, c * 6 + 3, none⟩ = some (.bool (s.act c)) := ((HH.out.fr0 hfa).fr0 hfr).cell hcn (by omega)
          have hci : (c : Int) < (M.n : Int) := by omega
          have hjl : (j : Int) < ((conL M.L i).length : Int) := by omega
          have HC := hide hc
          clear hc
          cases hac : s.act c with
          | true =>
            rw [hac] at cc
            have HF : Hid (idl M s i = false) := hide (by
              rw [HI.out, List.all_eq_false]
              exact ⟨c, List.mem_of_getElem? HC.out, by simp [hac]⟩)
            clear hac
            go_wp2
            go_ret
            exact ⟨ret_bool HF.out.symm, hfa.call hfr⟩
          | false =>
            rw [hac] at cc
            go_wp2
            go_roundg ((conL M.L i).length - (j + 1))
            case measure => rw [HM.out]; omega
            case rel =>
              refine ⟨j + 1, by omega, by go_num, fun x hx => ?_, hfr, rfl⟩
              obtain ⟨h1, h2⟩ := List.getElem?_eq_some_iff.1 HC.out
              rw [List.take_succ_eq_append_getElem h1, h2] at hx
              rcases List.mem_append.1 hx with hx | hx
              · exact HALL.out x hx
              · rw [List.mem_singleton.1 hx]; exact hac
        · have hjl : ¬ (j : Int) < ((conL M.L i).length : Int) := by omega
          have HF : Hid (idl M s i = true) := hide (by
            rw [HI.out, List.all_eq_true]
            intro c hc
            have := HALL.out c (by rw [List.take_of_length_le (by omega)]; exact hc)
            simp [this])
          go_wp2
          go_ret
          exact ⟨ret_bool HF.out.symm, hfa.call hfr⟩
    · have hu' : (0 : Int) < (s.use i : Int) := by omega
      have hu2 : (s.use i == 0) = false := by simp [hu]
      rw [hu2, Bool.false_and] at HI
      clear hu hu2
      go_enter Try.func85, Try.ntmps85
      go_wp2
      go_ret
      exact ⟨ret_bool HI.out.symm, hfa⟩
def optI28 : Option Nat → Int
  | none => -1
  | some d => (d : Int)
def FsRel (w : World) (M : RM) (s : RS) (m : Nat) (b i : Value) (wr : World) : Prop := ∃ k : Nat, k ≤ M.n ∧ i = .int .i64 (k : Int) ∧ b = .int .i64 (optI28 (fstTo M s k)) ∧ Fr [] w wr ∧ m = M.n - k
set_option maxHeartbeats 4000000 in
theorem first28_any (h : MgIn w P M s) (hM : MOk M) (hs : SOk M s) : Calls Try.prog 120 #[.pointer (some ⟨P.b, 0, none⟩)] w fun e w' => e = .returned (.int .i64 (optI28 (fstM M s))) ∧ Fr [] w w' := by
  have c0 : w.cell? ⟨P.b, 0, none⟩ = some (.slice (some ⟨P.g, 0, none⟩) M.n P.cg) := h.blk.cell 0
  have hn := hM.n
  have HH := hide h
  have HMO := hide hM
  have HSO := hide hs
  clear h hM hs
  go_enter Try.func120, Try.ntmps120
  go_wp2
  go_loopg [3, 10] M.n (fun m b i wr => FsRel w M s m b i wr)
  case atStart => exact ⟨0, by omega, rfl, rfl, Fr.refl _ _, rfl⟩
  case round =>
    obtain ⟨k, hk, rfl, rfl, hfr, hmm⟩ := hrel
    have HM := hide hmm
    clear hmm
    by_cases hlt : k < M.n
    · have hkl : (k : Int) < (M.n : Int) := by omega
      have HS : Hid (fstTo M s (k + 1) = fstStep M s (fstTo M s k) k) := hide rfl
      have HB : Hid (∀ j, fstTo M s k = some j → j < M.n) := hide (fun j hj => by have := (fstTo_some hj).1; omega)
      go_wp2_with fail
      refine (idle28_any (HH.out.fr0 hfr) HMO.out hlt).mono ?_
      rintro e w1 ⟨rfl, hf1⟩
      have hf01 := hfr.call hf1
      cases hid : idl M s k with
      | false =>
        have HE : Hid (fstTo M s (k + 1) = fstTo M s k) := hide (by rw [HS.out]; unfold fstStep; rw [if_neg (by simp [hid])])
        go_wp2
        go_roundg (M.n - (k + 1))
        case measure => rw [HM.out]; omega
        case rel => exact ⟨k + 1, by omega, by go_num, by rw [HE.out], hf01, rfl⟩
      | true =>
        cases hb : fstTo M s k with
        | none =>
          have HE : Hid (fstTo M s (k + 1) = some k) := hide (by rw [HS.out]; unfold fstStep; rw [if_pos ⟨hid, fun j hj => by rw [hb] at hj; cases hj⟩])
          rw [show optI28 none = -1 from rfl]
          clear hid hb
          go_wp2
          go_roundg (M.n - (k + 1))
          case measure => rw [HM.out]; omega
          case rel => exact ⟨k + 1, by omega, by go_num, by rw [HE.out]; rfl, hf01, rfl⟩
        | some j =>
          rw [show optI28 (some j) = (j : Int) from rfl]
          have hjn := HB.out j hb
          have hj0 : ¬ (j : Int) < 0 := by omega
          have HID := hide hid
          have HBJ := hide hb
          clear hid hb
          go_wp2_with fail
          refine (expiry28_any (HH.out.fr0 hf01) HMO.out HSO.out hlt).mono ?_
          rintro e w2 ⟨rfl, hf2⟩
          go_wp2_with fail
          refine (expiry28_any ((HH.out.fr0 hf01).fr0 hf2) HMO.out HSO.out hjn).mono ?_
          rintro e w3 ⟨rfl, hf3⟩
          have hf03 := (hf01.call hf2).call hf3
          by_cases hx : exy M s k < exy M s j
          · have hx' : (exy M s k : Int) < (exy M s j : Int) := by omega
            have HE : Hid (fstTo M s (k + 1) = some k) := hide (by rw [HS.out]; unfold fstStep; rw [if_pos ⟨HID.out, fun q hq => by rw [HBJ.out] at hq; injection hq with hq; subst hq; exact hx⟩])
            clear hx
            go_wp2
            go_roundg (M.n - (k + 1))
            case measure => rw [HM.out]; omega
            case rel => exact ⟨k + 1, by omega, by go_num, by rw [HE.out]; rfl, hf03, rfl⟩
          · have hx' : ¬ (exy M s k : Int) < (exy M s j : Int) := by omega
            have HE : Hid (fstTo M s (k + 1) = some j) := hide (by rw [HS.out]; unfold fstStep; rw [if_neg (fun hh => hx (hh.2 j HBJ.out)), HBJ.out])
            clear hx
            go_wp2
            go_roundg (M.n - (k + 1))
            case measure => rw [HM.out]; omega
            case rel => exact ⟨k + 1, by omega, by go_num, by rw [HE.out]; rfl, hf03, rfl⟩
    · have hkl : ¬ (k : Int) < (M.n : Int) := by omega
      obtain rfl : k = M.n := by omega
      go_wp2
      go_ret
      exact ⟨rfl, hfr⟩
end
end Go.Proofs.Ytdocdgghphhdpaa

