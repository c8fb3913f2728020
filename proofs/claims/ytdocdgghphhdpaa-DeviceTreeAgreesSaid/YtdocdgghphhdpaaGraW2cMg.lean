/- Walks: depgraph.neighbors, the suppliers. -/
import Derived.Test.YtdocdgghphhdpaaMgDeviceTree9
namespace Go.Proofs.Ytdocdgghphhdpaa
open Go.RowKit

set_option maxHeartbeats 4000000 in
theorem neighbors_false (n : Nat) (A : Option Addr) (cp : Nat) (l : List (Int × Int)) (w : World) (hr : Row w A (pcs l)) (hok : LinksOk n l) :
    Calls Try.prog 117 #[.int .i64 n, .slice A l.length cp, .bool false] w (NbRet w false n l) := by
  obtain ⟨i0, hi0, hz0, hz1, hz2⟩ := info_parts int_info1
  have HI := hide (And.intro hi0 (And.intro hz0 (And.intro hz1 hz2)))
  have HR := hide hr
  have hl1 : l.length ≤ 1024 := hok.2.2.1
  have hn1 : n ≤ 128 := by have := hok.2.1; omega
  have HOK := hide hok.2.2.2
  have hmk := make_lists n n (Nat.le_refl _) (by omega)
  have hnew := ListsAt.new (base := w.heap.size) w n (Nat.le_refl _)
  have hfr0 : Fr [] w (w.alloc (.cells (Array.replicate n (.slice none 0 0)) 34)) := (Fr.refl _ _).alloc _
  clear hr hok hi0 hz0 hz1 hz2
  go_enter Try.func117, Try.ntmps117
  go_wp2
  generalize (w.alloc (.cells (Array.replicate n (.slice none 0 0)) 34)) = w1 at hnew hfr0 ⊢
  obtain ⟨g, hg⟩ : ∃ g, g = w.heap.size := ⟨_, rfl⟩
  rw [← hg] at ⊢
  have hnew' : ListsAt w1 w.heap.size g (nbs false n (toNs (l.take 0))) := by
    rw [hg]
    have e : nbs false n (toNs (l.take 0)) = List.replicate n [] := by
      apply List.ext_getElem (by simp [nbs_length])
      intro i h1 h2
      simp [nbs, nb, toNs]
    rw [e]
    exact hnew
  have HG := hide hg
  clear hg hmk hnew
  go_loopg [14] l.length (fun m i wr => NbRel w g false n l m i wr)
  case atStart => exact ⟨0, by omega, rfl, hnew', hfr0, rfl⟩
  case round =>
    clear hnew' hfr0
    obtain ⟨k, hk, rfl, hls, hfr, hmm⟩ := hrel
    have HM := hide hmm
    have HLS := hide hls
    clear hmm hls
    by_cases hlt : k < l.length
    · obtain ⟨p, hp⟩ : ∃ p, l[k]? = some p := ⟨_, List.getElem?_eq_getElem hlt⟩
      obtain ⟨ob, oo, rfl, c1, c2⟩ := (HR.out.fr0 hfr).link hp
      have hpo := HOK.out p (List.mem_of_getElem? hp)
      have HP := hide (take_succ_some hp)
      clear hp
      have hkl : (k : Int) < (l.length : Int) := by omega
      obtain ⟨c, s⟩ := p
      simp only at c1 c2
      unfold LinkOk at hpo
      simp only at hpo
      obtain ⟨q1, q2, q3, q4⟩ := hpo
      obtain ⟨c, rfl⟩ := Int.eq_ofNat_of_zero_le q1
      obtain ⟨s, rfl⟩ := Int.eq_ofNat_of_zero_le q3
      obtain ⟨L, hL⟩ : ∃ L, L = toNs (l.take k) := ⟨_, rfl⟩
      have hLl : (nb false L c).length ≤ 1024 := by
        have := nb_length_le false L c
        rw [hL] at this ⊢
        simp [toNs] at this ⊢
        omega
      have HP2 : Hid (nbs false n (toNs (l.take (k + 1))) = (nbs false n L).set c (nb false L c ++ [s])) := hide (by
        rw [HP.out, hL]
        simp only [toNs, List.map_append, List.map_cons, List.map_nil]
        rw [nbs_snoc]
        simp [ends, toN])
      have hlsx := HLS.out.fr0 ((Fr.refl [] _).alloc (.cells #[.int .i64 (c : Int), .int .i64 (s : Int)] 76))
      rw [← hL] at hlsx
      obtain ⟨v, hcv, hfz, hown, hvb, hput⟩ := hlsx.at_ (nbs_get false L (show c < n by omega))
      have hbx := Blk.new wr 76 #[.int .i64 (c : Int), .int .i64 (s : Int)]
      have hfx := hfr.alloc (.cells #[.int .i64 (c : Int), .int .i64 (s : Int)] 76)
      have hgl := hlsx.lt
      have hgb := hlsx.base_
      have HOWN := hide hown
      have HPUT := hide hput
      have HVB := hide hvb
      have HBX := hide hbx
      have HLL := hide hL
      have hvc : ∀ y, v.ownBlock = some y → y ≠ wr.heap.size := fun y hy => by
        obtain ⟨_, _, _, cs, hb⟩ := hvb y hy
        exact Blk.ne_ hb hbx (by decide)
      have HVC := hide hvc
      clear hlsx hown hput hvb hbx hL HLS hvc HP
      have k0 : (0 : Int) ≤ (c : Int) := by omega
      have kn : (c : Int) < (n : Int) := by omega
      go_wp2
      generalize (wr.alloc (.cells #[.int .i64 (c : Int), .int .i64 (s : Int)] 76)) = wx at hcv hfz hfx hgl HOWN HPUT HVB HBX ⊢
      generalize wr.heap.size = xb at HBX HVC ⊢
      have d1 : wx.cell? ⟨xb, 0, none⟩ = some (.int .i64 (c : Int)) := HBX.out.cell 0
      have d2 : wx.cell? ⟨xb, 1, none⟩ = some (.int .i64 (s : Int)) := HBX.out.cell 1
      have n1 := Fr.cell ((Fr.refl [] wx).alloc (.cells #[.int .i64 (s : Int)] 3)) d1 (by simp)
      have n2 := Fr.cell ((Fr.refl [] wx).alloc (.cells #[.int .i64 (s : Int)] 3)) d2 (by simp)
      have n3 := Fr.cell ((Fr.refl [] wx).alloc (.cells #[.int .i64 (s : Int)] 3)) hcv (by simp)
      go_region_law ((refine step_append_row _ (by rfl) (.tmp 39) (.tmp 42) _ (by rfl) w.heap.size 3 i0 (.int .i64 0) 1 8 Try.underlying34 HI.out.1 HI.out.2.1 HI.out.2.2.1 HI.out.2.2.2 rfl (by omega) v (nb false L c).length ((nb false L c).map nv) (by rfl) (own_fr HOWN.out (((Fr.refl [] wx).alloc _).drew) (fun _ _ => by simp)) (some ⟨wx.heap.size, 0, none⟩) 1 1 [.int .i64 (s : Int)] (by rfl) rfl ((row_one wx 3 (.int .i64 (s : Int))).fr0 ((Fr.refl [] _).drew)) (by intro u hu; simp at hu; subst hu; rfl) (by simp only [maxLen]; omega) (by omega) (by have := hfx.size; simp; omega) ?_; intro v1 w2 hown2 hg2 hat2; obtain ⟨A2, c2, rfl, -, -, -⟩ := own_slice hown2; have hcv2 := cell_grown (((Fr.refl [] wx).alloc _).drew) hg2 hcv (fun y hy => (HVB.out y hy).1); have e1 := cell_grown (((Fr.refl [] wx).alloc _).drew) hg2 d1 HVC.out; have e2 := cell_grown (((Fr.refl [] wx).alloc _).drew) hg2 d2 HVC.out; have hfz2 := frozen_grown (((Fr.refl [] wx).alloc _).drew) hg2 hfz hgl (fun y hy => (HVB.out y hy).1)))
      all_goals
        have hls2 := HPUT.out w2 (.slice A2 ((nb false L c).length + 1) c2) s ((((Fr.refl _ wx).alloc _).drew).trans (Fr.of_grown hg2)) (by rw [List.map_append]; exact hown2) (hat2.imp id (fun h => ⟨_, by simp, h⟩))
        rw [← HP2.out] at hls2
        have hfw2 := (((hfx.alloc _).drew).grown hg2 (fun y hy => .inr (HVB.out y hy).2.1)).set (p := ⟨g, c, none⟩) (.inr hgb) (.slice A2 ((nb false L c).length + 1) c2)
        clear hown2 hg2 hat2 hcv2 e1 e2 hfz2 n1 n2 n3 d1 d2 hcv hfz
        go_wp2
        go_roundg (l.length - (k + 1))
        case measure => rw [HM.out]; omega
        case rel => exact ⟨k + 1, by omega, by go_num, hls2, hfw2, rfl⟩
    · have hkl : ¬ (k : Int) < (l.length : Int) := by omega
      go_wp2
      go_ret
      refine ⟨g, rfl, ?_, hfr⟩
      have := HLS.out
      rwa [List.take_of_length_le (by omega)] at this
end Go.Proofs.Ytdocdgghphhdpaa

