/- The law DepgraphCheckLimits, walked. -/
import Derived.Test.YtnfhiadhpbojkaaGraM11
import Derived.Test.YtnfhiadhpbojkaaGraL1
namespace Go.Proofs.Ytnfhiadhpbojkaa
open Go.RowKit

def LmRel1 (w : World) (t m : Nat) (v c : Value) (wr : World) : Prop := ∃ k : Nat, k ≤ 128 ∧ c = .int .i64 k ∧ wr.ownsRow w.heap.size 34 2 v (limOut t k).length (pcs (ofNs (limOut t k))) ∧ Fr [] w wr ∧ m = 128 - k
def LmRel2 (w : World) (t c m : Nat) (out : List (Nat × Nat)) (v s : Value) (wr : World) : Prop := ∃ k : Nat, k ≤ c ∧ s = .int .i64 k ∧ wr.ownsRow w.heap.size 34 2 v (limIn t c out k).length (pcs (ofNs (limIn t c out k))) ∧ Fr [] w wr ∧ m = c - k
def LmRel3 (w5 : World) (n m : Nat) (i : Value) (wr : World) : Prop := ∃ k : Nat, k ≤ n ∧ i = .int .i64 k ∧ Fr [] w5 wr ∧ m = n - k
theorem check_of {N : Nat} {L : List (Nat × Nat)} (h1 : LinksOk (N : Int) (ofNs L)) (h2 : (ofNs L).Nodup) (h3 : Acyc L) (h4 : ∀ p ∈ L, p.1 < N ∧ p.2 < N) : checkM (N : Int) (ofNs L) = 0 := by
  have hf : (greedy N L).length = N := (greedy_full h4).2 h3
  unfold checkM
  rw [orderM_ok (basicM_ok h1 h2) (by rw [toNs_ofNs]; exact hf)]
theorem check_big {n : Int} {l : List (Int × Int)} (h : 1024 < l.length) : checkM n l = 1 := by
  have hb : basicM n l = 1 := basicM_not (fun k => by have := k.2.2.1; omega)
  unfold checkM
  rw [orderM_bad (by rw [hb]; decide), hb]
theorem check_lim {t : Nat} (ht : t < 3) : checkM ((128 : Nat) : Int) (ofNs (limL t)) = 0 := by
  have h := limL_links ht
  generalize limL t = L at h
  exact check_of h.1 h.2.1 h.2.2.1 h.2.2.2
theorem check_more {t : Nat} (ht : t < 3) : checkM ((128 : Nat) : Int) (ofNs (limL t ++ [(127, 126)])) = 1 := by
  have h := limL_len ht
  generalize limL t = L at h
  exact check_big (by rw [ofNs_length, List.length_append, h]; simp)
theorem check_129 : checkM 129 [] = 1 := by decide +kernel
theorem check_neg : checkM (-1) [] = 1 := by decide +kernel
set_option maxHeartbeats 8000000 in
set_option maxRecDepth 100000 in
theorem limits_walk (shift : Int) (w : World) : Calls Try.prog 9 #[.int .i64 shift] w fun e w' => e = .returned (.bool true) ∧ Fr [] w w' := by
  obtain ⟨i0, hi0, hz0, hz1, hz2⟩ := info_parts link_info
  have HI := hide (And.intro hi0 (And.intro hz0 (And.intro hz1 hz2)))
  clear hi0 hz0 hz1 hz2
  have ht := umod_lt shift (n := 3) (by omega)
  have hmod := fun wq => mod_any shift 3 wq (by omega) (by omega)
  generalize umod shift 3 = t at ht hmod
  have HMOD := hide hmod
  clear hmod
  go_enter Try.func9, Try.ntmps9
  go_wp2
  go_loopg [3, 4] 128 (fun m v c wr => LmRel1 w t m v c wr)
  case atStart => exact ⟨0, by omega, rfl, own_nil _ _ _ _, Fr.refl _ _, rfl⟩
  case round =>
    obtain ⟨c, hc, rfl, hown, hfr, hmm⟩ := hrel
    have HM := hide hmm
    clear hmm
    obtain ⟨A3, c3, rfl, -, -, -⟩ := own_slice hown
    have HOWN := hide hown
    have hlen := (limOut_ok t c).len
    clear hown
    by_cases hin : c < 128 ∧ (limOut t c).length < 1024
    · obtain ⟨hc8, hl4⟩ := hin
      have hci : (c : Int) < 128 := by omega
      have hli : ((limOut t c).length : Int) < 1024 := by omega
      have HSUC := hide (limOut_succ t c)
      generalize limOut t c = out at hlen hl4 hli HOWN HSUC ⊢
      go_wp2
      go_loopg [3, 5] c (fun m v s wq => LmRel2 w t c m out v s wq)
      case atStart => exact ⟨0, by omega, rfl, HOWN.out, hfr, rfl⟩
      case round =>
        clear HOWN hfr
        obtain ⟨s, hs, rfl, hown, hfr, hmm⟩ := hrel
        have HM2 := hide hmm
        clear hmm
        obtain ⟨A3, c3, rfl, -, -, -⟩ := own_slice hown
        have HOWN := hide hown
        have HIS := hide (limIn_succ t c out s)
        have HST := hide (fun h => limIn_stop (t := t) (c := c) (out := out) (k := s) h)
        have hlen2 : (limIn t c out s).length ≤ 1024 := by
          have : ∀ k, (limIn t c out k).length ≤ 1024 := fun k => by
            induction k with
            | zero => exact hlen
            | succ k ih =>
              rw [limIn_succ]
              unfold limStep
              split
              · simp; omega
              · exact ih
          exact this s
        clear hown
        by_cases hin2 : s < c ∧ (limIn t c out s).length < 1024
        · obtain ⟨hsc, hl5⟩ := hin2
          have hsi : (s : Int) < (c : Int) := by omega
          have hli2 : ((limIn t c out s).length : Int) < 1024 := by omega
          unfold limStep at HIS
          generalize limIn t c out s = cur at hlen2 hl5 hli2 HOWN HIS ⊢
          go_wp2_with fail
          refine (HMOD.out _).mono ?_
          rintro e w1 ⟨rfl, rfl⟩
          by_cases h3 : (c + s + t) % 3 = 0
          · have h3' : ((c : Int) + (s : Int) + (t : Int)) % 3 = 0 := by omega
            have h3b : (((c : Int) + (s : Int) + (t : Int)) % 3 != 0) = false := by simp [h3']
            rw [if_neg (fun h => h.2 h3)] at HIS
            clear h3
            go_wp2
            go_roundg (c - (s + 1))
            case measure => rw [HM2.out]; omega
            case rel => exact ⟨s + 1, by omega, by go_num, by rw [HIS.out]; exact HOWN.out, hfr, rfl⟩
          · have h3' : ¬ ((c : Int) + (s : Int) + (t : Int)) % 3 = 0 := by omega
            have h3b : (((c : Int) + (s : Int) + (t : Int)) % 3 != 0) = true := by simp [h3']
            rw [if_pos ⟨hl5, h3⟩] at HIS
            have hsz : w.heap.size ≤ wr.heap.size + 1 := by have := hfr.size; omega
            clear h3
            go_wp2_with (first
              | (at_builtin
                 refine wpList_append_row _ rfl (.tmp 35) (.tmp 39) _ rfl w.heap.size 34 i0 (.agg #[.int .i64 0, .int .i64 0]) 2 16 Try.underlying22 HI.out.1 HI.out.2.1 HI.out.2.2.1 HI.out.2.2.2 rfl (by omega) (.slice A3 cur.length c3) cur.length (pcs (ofNs cur)) rfl
                   (own_fr HOWN.out ((Fr.refl [] _).alloc _) (fun _ _ => by simp)) (some ⟨wr.heap.size, 0, none⟩) 1 1 [.int .i64 (c : Int), .int .i64 (s : Int)] rfl rfl (row_two wr _ _ _) (by intro u hu; simp at hu; rcases hu with rfl | rfl <;> rfl) (by simp only [maxLen]; omega) (by omega) (by simpa using hsz) ?_
                 intro v1 w9 hown9 hg9 hat9))
            have hf9 : Fr [] w w9 := (hfr.alloc _).grown hg9 (fun y hy => .inr (own_block HOWN.out hy).1)
            go_roundg (c - (s + 1))
            case measure => rw [HM2.out]; omega
            case rel =>
              refine ⟨s + 1, by omega, by go_num, ?_, hf9, rfl⟩
              rw [HIS.out, pcs_ofNs_snoc, List.length_append, List.length_singleton]
              exact hown9
        · have hfin : limIn t c out s = limIn t c out c := by
            by_cases hsc : s < c
            · have := HST.out (by omega) (c - s)
              rw [show s + (c - s) = c by omega] at this
              exact this.symm
            · rw [show s = c by omega]
          rw [hfin, ← HSUC.out] at HOWN
          have hway : ¬ (s : Int) < (c : Int) ∨ ((s : Int) < (c : Int) ∧ ¬ ((limIn t c out s).length : Int) < 1024) := by omega
          rw [hfin, ← HSUC.out] at hway ⊢
          obtain ⟨cur, hcur⟩ : ∃ cur, cur = limOut t (c + 1) := ⟨_, rfl⟩
          rw [← hcur] at HOWN hway ⊢
          have HCUR := hide hcur
          clear hcur hfin hin2 hlen2
          rcases hway with h | ⟨h, h2⟩
          all_goals
            go_wp2
            go_roundg (128 - (c + 1))
            case measure => rw [HM.out]; omega
            case rel => exact ⟨c + 1, by omega, by go_num, by rw [← HCUR.out]; exact HOWN.out, hfr, rfl⟩
    · have hfin : limOut t c = limL t := by
        unfold limL
        by_cases h8 : c < 128
        · have := limOut_stop (t := t) (k := c) (by omega) (128 - c)
          rw [show c + (128 - c) = 128 by omega] at this
          exact this.symm
        · rw [show c = 128 by omega]
      have hway : ¬ (c : Int) < 128 ∨ ((c : Int) < 128 ∧ ¬ ((limOut t c).length : Int) < 1024) := by omega
      rw [hfin] at HOWN hway hlen ⊢
      have hl4 := limL_len ht
      have hlast := limL_last ht
      have hck1 := check_lim ht
      have hck2 := check_more ht
      generalize limL t = L at HOWN hway hlen hl4 hlast hck1 hck2 ⊢
      have HL4 := hide hl4
      have HLAST := hide hlast
      have HCK1 := hide hck1
      have HCK2 := hide hck2
      have hLe : ((L.length : Int) == 1024) = true := by simp [hl4]
      have HFIN := hide hfin
      have hrowl := Row.of_own HOWN.out
      have HROW := hide hrowl
      clear hfin hin hl4 hlast hck1 hck2 hrowl
      have hone : ∀ u ∈ pcs (ofNs L), u.oneCell' = true := fun u hu => by
        obtain ⟨p, _, hp⟩ := List.mem_flatMap.1 hu
        simp [pc] at hp
        rcases hp with rfl | rfl <;> rfl
      have HONE := hide hone
      clear hone
      have hempty := own_new wr (base := wr.heap.size) (e := 34) (size := 2) (n := 0) (c := 0) (cs := #[]) (Nat.le_refl _) rfl (Nat.le_refl _) (by simp [maxLen])
      have HEM := hide hempty
      clear hempty
      have hL5 : L.length ≤ 1024 := hlen
      rcases hway with hx | ⟨hx, hx2⟩
      all_goals
        go_wp2_with (first
          | (at_builtin
             refine wpList_append_row _ rfl (.tmp 41) (.tmp 42) _ rfl wr.heap.size 34 i0 (.agg #[.int .i64 0, .int .i64 0]) 2 16 Try.underlying22 HI.out.1 HI.out.2.1 HI.out.2.2.1 HI.out.2.2.2 rfl (by omega) (.slice (some ⟨wr.heap.size, 0, none⟩) 0 0) 0 [] rfl
               (by simpa using HEM.out) A3 L.length c3 (pcs (ofNs L)) rfl (by rw [pcs_length, ofNs_length]) (HROW.out.fr0 ((Fr.refl [] _).alloc _)) HONE.out (by simp only [maxLen]; omega) (by omega) (by simp) ?_
             intro v9 w9 hown9 hg9 hat9
             have hf9 : Fr [] wr w9 := ((Fr.refl [] wr).alloc (.cells #[] 34)).grown hg9 (fun y hy => .inr (by simp [Value.ownBlock] at hy; omega))
             have HO9 := hide hown9
             clear hown9 hat9)
          | (at_builtin
             refine wpList_append_row _ rfl (.tmp 43) (.tmp 45) _ rfl wr.heap.size 34 i0 (.agg #[.int .i64 0, .int .i64 0]) 2 16 Try.underlying22 HI.out.1 HI.out.2.1 HI.out.2.2.1 HI.out.2.2.2 rfl (by omega) v9 (0 + L.length) ([] ++ pcs (ofNs L)) rfl
               (own_fr HO9.out ((Fr.refl [] _).alloc _) (fun _ _ => by simp)) (some ⟨w9.heap.size, 0, none⟩) 1 1 [.int .i64 127, .int .i64 126] rfl rfl (row_two w9 _ _ _) (by intro u hu; simp at hu; rcases hu with rfl | rfl <;> rfl) (by simp only [maxLen]; omega) (by omega) (by have := hf9.size; simp; omega) ?_
             intro v10 w10 hown10 hg10 hat10
             have hf10 : Fr [] wr w10 := (hf9.alloc (.cells #[.int .i64 127, .int .i64 126] 34)).grown hg10 (fun y hy => .inr (own_block HO9.out hy).1)
             have HO10 := hide hown10
             clear hown10 hat10))
        have hmore := HO10.out
        rw [Nat.zero_add, List.nil_append] at hmore
        obtain ⟨A6, c6, rfl, -, hrow6, -⟩ := own_slice hmore
        have HR6 := hide (show Row w10 A6 (pcs (ofNs (L ++ [(127, 126)]))) by rw [pcs_ofNs_snoc]; exact hrow6)
        have HRL := hide (HROW.out.fr0 hf10)
        have hw10 := hfr.call hf10
        clear hmore hrow6 HO10 HO9 hg9 hg10 hf9 hf10 HEM HROW HONE HOWN
        go_loopg [7] L.length (fun m i wq => LmRel3 w10 L.length m i wq)
        case atStart => exact ⟨0, by omega, rfl, Fr.refl _ _, rfl⟩
        case round =>
          obtain ⟨k, hk, rfl, hfk, hmm⟩ := hrel
          have HM3 := hide hmm
          clear hmm
          by_cases hlt : k < L.length
          · obtain ⟨q, hq⟩ : ∃ q, L[k]? = some q := ⟨_, List.getElem?_eq_getElem hlt⟩
            obtain ⟨ob, oo, e, q0, q1⟩ := (HRL.out.fr0 hfk).link (ofNs_get hq)
            subst e
            have hgl : (L ++ [(127, 126)])[L.length]? = some (127, 126) := by simp
            obtain ⟨ob2, oo2, e, r0, r1⟩ := (HR6.out.fr0 hfk).link (ofNs_get hgl)
            subst e
            have hkl : (k : Int) < (L.length : Int) := by omega
            have hne : q ≠ (127, 126) := fun e => HLAST.out (by rw [← e]; exact List.mem_of_getElem? hq)
            have hbb : (L.length : Int) < ((L.length + 1 : Nat) : Int) := by omega
            obtain ⟨qa, qb⟩ := q
            simp only [ofN] at q0 q1 r0 r1
            have r0' : wr.cell? ⟨ob2, oo2 + L.length * 2, none⟩ = some (.int .i64 127) := r0
            have r1' : wr.cell? ⟨ob2, oo2 + L.length * 2 + 1, none⟩ = some (.int .i64 126) := r1
            have hcase : ¬ qa = 127 ∨ (qa = 127 ∧ ¬ qb = 126) := by
              by_cases h1 : qa = 127
              · exact .inr ⟨h1, fun h2 => hne (by rw [h1, h2])⟩
              · exact .inl h1
            clear hq hgl hne r0 r1
            rcases hcase with h1 | ⟨h1, h1'⟩
            · have h1i : ¬ (qa : Int) = 127 := by omega
              go_wp2
              go_quiet (fail)
              go_wp2
              go_roundg (L.length - (k + 1))
              case measure => rw [HM3.out]; omega
              case rel => exact ⟨k + 1, by omega, by go_num, hfk.drewN _, rfl⟩
            · subst h1
              have h1i : ¬ (qb : Int) = 126 := by omega
              go_wp2
              go_quiet (fail)
              go_wp2
              go_roundg (L.length - (k + 1))
              case measure => rw [HM3.out]; omega
              case rel => exact ⟨k + 1, by omega, by go_num, hfk.drewN _, rfl⟩
          · have hkl : ¬ (k : Int) < (L.length : Int) := by omega
            have hq := check_any24 ((128 : Nat) : Int) A3 c3 (ofNs L) wr (HRL.out.fr0 hfk) (by rw [ofNs_length]; omega)
            rw [ofNs_length, HCK1.out] at hq
            go_wp2_with fail
            refine hq.mono ?_
            clear hq
            rintro e w11 ⟨rfl, hf11⟩
            have hq := check_any24 ((128 : Nat) : Int) A6 c6 (ofNs (L ++ [(127, 126)])) w11 ((HR6.out.fr0 hfk).fr0 hf11) (by rw [ofNs_length]; simp; omega)
            rw [ofNs_length, List.length_append, List.length_singleton, HCK2.out] at hq
            go_wp2_with fail
            refine hq.mono ?_
            clear hq
            rintro e w12 ⟨rfl, hf12⟩
            go_wp2_with fail
            refine (check_any24 129 none 0 [] w12 (Row.nil _ _) (by simp)).mono ?_
            rintro e w13 ⟨rfl, hf13⟩
            rw [check_129]
            go_wp2_with fail
            refine (check_any24 (-1) none 0 [] w13 (Row.nil _ _) (by simp)).mono ?_
            rintro e w14 ⟨rfl, hf14⟩
            rw [check_neg]
            go_wp2_with fail
            refine (awake24_any _).mono ?_
            rintro e w15 ⟨rfl, hf15⟩
            go_wp2
            go_ret
            exact ⟨rfl, (((((hw10.call hfk).call hf11).call hf12).call hf13).call hf14).call hf15⟩
end Go.Proofs.Ytnfhiadhpbojkaa
