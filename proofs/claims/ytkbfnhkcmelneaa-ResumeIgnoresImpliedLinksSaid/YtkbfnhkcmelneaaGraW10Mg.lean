/- Walks: depgraph.reach. -/
import Derived.Test.YtkbfnhkcmelneaaGraW9Mg
namespace Go.Proofs.Ytkbfnhkcmelneaa
open Go.RowKit

/-- What the search has come to: all that is reached and not on the stack has all its neighbours reached. -/
structure RchI (n : Nat) (K : List (Nat × Nat)) (of : List Nat) (R : Nat → Bool) (st : List Nat) : Prop where
  lt : ∀ v ∈ st, v < n
  on : ∀ v ∈ st, R v = true
  out : ∀ v, n ≤ v → R v = false
  sound : ∀ v, R v = true → Rch K of v
  closed : ∀ v, R v = true → v ∉ st → ∀ s, (v, s) ∈ K → R s = true
  nodup : st.Nodup
  first : ∀ u ∈ of, R u = true
theorem RchI.start {n : Nat} {K : List (Nat × Nat)} {of : List Nat} (ho : ∀ u ∈ of, u < n) :
    RchI n K of (visF (fun _ => false) [] of).1 (visF (fun _ => false) [] of).2 := by
  obtain ⟨R', st', e, g1, g2, g3, g4, g5, g6, g7, g8, g9⟩ := visF_spec (n := n) (K := K) (of := of) of (fun _ => false) [] (fun _ => False) ho (fun c hc => ⟨c, hc, .inl rfl⟩) (by simp) (by simp) (fun _ _ => rfl) (by simp) (by simp) (by simp)
  rw [e]
  exact ⟨g1, g2, g3, g4, fun v hv hn => g5 v hv hn id, g6, g8⟩
theorem RchI.round {n : Nat} {K : List (Nat × Nat)} {of : List Nat} {R : Nat → Bool} {st : List Nat} {v : Nat} {C : List Nat} (h : RchI n K of R (st ++ [v])) (hC : ∀ c, c ∈ C ↔ (v, c) ∈ K) (hK : ∀ p ∈ K, p.1 < n ∧ p.2 < n) :
    RchI n K of (visF R st C).1 (visF R st C).2 ∧ 2 * (n - cnt n (visF R st C).1) + (visF R st C).2.length < 2 * (n - cnt n R) + (st ++ [v]).length := by
  have hv : R v = true := h.on v (by simp)
  have hnd := h.nodup
  rw [List.nodup_append] at hnd
  obtain ⟨R', st', e, g1, g2, g3, g4, g5, g6, g7, g8, g9⟩ := visF_spec (n := n) (K := K) (of := of) C R st (fun u => u = v) (fun c hc => (hK _ ((hC c).1 hc)).2) (fun c hc => (h.sound v hv).step ((hC c).1 hc)) (fun u hu => h.lt u (List.mem_append_left _ hu)) (fun u hu => h.on u (List.mem_append_left _ hu)) h.out h.sound
    (fun u hu hn hx s hs => h.closed u hu (by simp only [List.mem_append, List.mem_singleton, not_or]; exact ⟨hn, hx⟩) s hs) hnd.1
  rw [e]
  refine ⟨⟨g1, g2, g3, g4, fun u hu hn s hs => ?_, g6, fun u hu => g7 u (h.first u hu)⟩, ?_⟩
  · by_cases hx : u = v
    · subst hx
      exact g8 s ((hC s).2 hs)
    · exact g5 u hu hn hx s hs
  · rw [List.length_append, List.length_singleton]
    simp only
    omega
theorem RchI.stop {n : Nat} {K : List (Nat × Nat)} {of : List Nat} {R : Nat → Bool} (h : RchI n K of R []) (hK : ∀ p ∈ K, p.1 < n ∧ p.2 < n) : ∀ v, v < n → R v = rchB n K of v :=
  rchB_of hK (fun v _ => ⟨h.sound v, fun hr => hr.sub (R := fun u => R u = true) h.first (fun a b ha hb => h.closed a ha (by simp) b hb)⟩)
def ReachRel (w : World) (rp sp rb n : Nat) (K : List (Nat × Nat)) (of : List Nat) (m : Nat) (wr : World) : Prop :=
  ∃ (R : Nat → Bool) (st : List Nat), Vis wr w.heap.size rp sp rb n R st ∧ RchI n K of R st ∧ Fr [] w wr ∧ m = 2 * (n - cnt n R) + st.length
def ReachRet (w : World) (n : Nat) (K : List (Nat × Nat)) (of : List Nat) (e : Ending) (w' : World) : Prop :=
  ∃ rb, e = .returned (.slice (some ⟨rb, 0, none⟩) n n) ∧ FA w' rb 4 bv n (rchB n K of) ∧ w.heap.size ≤ rb ∧ Fr [] w w'

set_option maxHeartbeats 4000000 in
theorem reach_any {w : World} {base g n : Nat} (cons : Bool) (L : List (Nat × Nat)) (A : Option Addr) (cp : Nat) (of : List Nat) (hls : ListsAt w base g (nbs cons n L)) (hr : Row w A (of.map nv)) (ho : ∀ u ∈ of, u < n) (hL : ∀ p ∈ L, p.1 < n ∧ p.2 < n) (hn : n ≤ 128) (hl : L.length ≤ 1024) (hof : of.length ≤ 4096) :
    Calls Try.prog 16 #[.slice (some ⟨g, 0, none⟩) n n, .slice A of.length cp] w (ReachRet w n (ori cons L) of) := by
  have HLS := hide hls
  have HR := hide hr
  have HO := hide ho
  have HK := hide (ori_lt (cons := cons) hL)
  have hmk := make_bools n n (Nat.le_refl _) (by omega)
  have hvis : Vis (((w.alloc (.cells (Array.replicate n (.bool false)) 4)).alloc (.cells #[.slice (some ⟨w.heap.size, 0, none⟩) n n] 51)).alloc (.cells #[.slice none 0 0] 50)) w.heap.size (w.heap.size + 1) (w.heap.size + 1 + 1) w.heap.size n (fun _ => false) [] := by
    refine ⟨.slice none 0 0, ?_, ?_, ?_, own_nil _ _ _ _, by omega⟩
    · have := (Blk.new (w.alloc (.cells (Array.replicate n (.bool false)) 4)) 51 #[.slice (some ⟨w.heap.size, 0, none⟩) n n]).alloc (.cells #[.slice none 0 0] 50)
      simpa using this
    · exact ((FA.new w 4 bv false n).fr0 ((Fr.refl [] _).alloc _)).fr0 ((Fr.refl [] _).alloc _)
    · have := Blk.new ((w.alloc (.cells (Array.replicate n (.bool false)) 4)).alloc (.cells #[.slice (some ⟨w.heap.size, 0, none⟩) n n] 51)) 50 #[.slice none 0 0]
      simpa using this
  have hfr : Fr [] w (((w.alloc (.cells (Array.replicate n (.bool false)) 4)).alloc (.cells #[.slice (some ⟨w.heap.size, 0, none⟩) n n] 51)).alloc (.cells #[.slice none 0 0] 50)) := (((Fr.refl _ _).alloc _).alloc _).alloc _
  clear hls hr ho hL
  go_enter Try.func16, Try.ntmps16
  go_wp2_with fail
  generalize (((w.alloc (.cells (Array.replicate n (.bool false)) 4)).alloc (.cells #[.slice (some ⟨w.heap.size, 0, none⟩) n n] 51)).alloc (.cells #[.slice none 0 0] 50)) = w1 at hvis hfr ⊢
  refine (visit_any A cp HR.out hfr hvis HO.out (by simp; omega)).mono ?_
  rintro e w2 ⟨rfl, hv2, hf2⟩
  have hst := RchI.start (K := ori cons L) HO.out
  generalize visF (fun _ => false) [] of = q at hv2 hst
  obtain ⟨rp, hrp⟩ : ∃ rp, rp = w.heap.size + 1 := ⟨_, rfl⟩
  obtain ⟨sp, hsp⟩ : ∃ sp, sp = w.heap.size + 1 + 1 := ⟨_, rfl⟩
  obtain ⟨rb, hrb⟩ : ∃ rb, rb = w.heap.size := ⟨_, rfl⟩
  rw [← hsp, ← hrp] at hv2 ⊢
  have hv2' : Vis w2 w.heap.size rp sp rb n q.1 q.2 := by rw [hrb]; exact hv2
  have HV2 := hide hv2'
  have HST := hide hst
  clear hv2 hv2' hst hvis hfr hmk hrp hsp hrb
  go_wp2
  go_loopg [] (2 * (n - cnt n q.1) + q.2.length) (fun m wr => ReachRel w rp sp rb n (ori cons L) of m wr)
  case atStart => exact ⟨q.1, q.2, HV2.out, HST.out, hf2, rfl⟩
  case round =>
    clear HV2 HST hf2
    obtain ⟨R, st, ⟨v, hvi⟩, hri, hfr, hmm⟩ := hrel
    have hstl := nodup_length_le hri.lt hri.nodup
    have HM := hide hmm
    have HRI := hide hri
    have g1 : wr.cell? ⟨rp, 0, none⟩ = some (.slice (some ⟨rb, 0, none⟩) n n) := hvi.rv.cell 0
    have g4 : wr.cell? ⟨sp, 0, none⟩ = some v := hvi.sv.cell 0
    have g5 := hvi.sv.frozen 0
    have g6 := hvi.sv.lt
    have g7 := hvi.low
    clear hmm hri
    by_cases h0 : st = []
    · subst h0
      obtain ⟨A5, c5, rfl, -, -, -⟩ := own_slice hvi.own
      have HV := hide hvi
      clear hvi
      rw [List.length_nil] at g4
      go_wp2
      go_ret
      exact ⟨rb, rfl, HV.out.ra.congr (HRI.out.stop HK.out), g7.2.2, hfr⟩
    · obtain ⟨s0, u, rfl⟩ : ∃ s0 u, st = s0 ++ [u] := ⟨st.dropLast, st.getLast h0, (List.dropLast_concat_getLast h0).symm⟩
      have hown := hvi.own
      rw [List.length_append, List.length_singleton] at hown hstl
      obtain ⟨A5, c5, rfl, -, hrow, -⟩ := own_slice hown
      have hcap : s0.length + 1 ≤ c5 := by
        rcases hown.2 with ⟨h1, _⟩ | ⟨g', cap, cur, hv, -, -, hnc, -⟩
        · cases h1
        · injection hv with _ _ h3
          omega
      have hpop := own_pop hown
      have hpm : (List.map nv (s0 ++ [u])).take s0.length = s0.map nv := by
        rw [List.map_append, List.take_left' (by simp)]
      rw [hpm] at hpop
      have hun : u < n := HRI.out.lt u (by simp)
      obtain ⟨ob, oo, e, c1⟩ := hrow.at_ (i := s0.length) (u := nv u) (by simp)
      subst e
      have hpush := hvi.push_ (w1 := wr) (v' := .slice (some ⟨ob, oo, none⟩) s0.length c5) (st' := s0) (Fr.refl _ _) hpop
      have hf1 := hfr.set (p := ⟨sp, 0, none⟩) (.inr g7.2.1) (.slice (some ⟨ob, oo, none⟩) s0.length c5)
      have HP := hide hpush
      clear h0 hown hrow hpop hpm hpush hvi
      have hI1 : ((s0.length + 1 : Nat) : Int) - 1 = (s0.length : Int) := by omega
      have hI2 : (0 : Int) < ((s0.length + 1 : Nat) : Int) := by omega
      have hI3 : (s0.length : Int) < ((s0.length + 1 : Nat) : Int) := by omega
      have hI4 : (s0.length : Int) ≤ (c5 : Int) := by omega
      go_upto_region 8 with fail
      generalize (wr.setCell ⟨sp, 0, none⟩ (.slice (some ⟨ob, oo, none⟩) s0.length c5)) = w5 at HP hf1 ⊢
      obtain ⟨vc, hcv1, -, howc, -, -⟩ := HLS.out.at_ (nbs_get cons L hun)
      have hcv := Fr.cell hf1 hcv1 (by simp)
      obtain ⟨AC, cc, rfl, -, hrc, -⟩ := own_slice howc
      have hCl := nb_length_le cons L u
      have hCm : ∀ c, c ∈ nb cons L u ↔ (u, c) ∈ ori cons L := fun c => ori_mem.symm
      have hCn : ∀ c ∈ nb cons L u, c < n := fun c hc => (HK.out _ ((hCm c).1 hc)).2
      obtain ⟨hnew, hdec⟩ := HRI.out.round hCm HK.out
      generalize nb cons L u = C at hcv hrc hCl hCn hnew hdec ⊢
      have HRC := hide hrc
      have HCN := hide hCn
      have HNEW := hide hnew
      have HDEC := hide hdec
      have huI : (u : Int) < (n : Int) := by omega
      clear hcv1 howc hrc hCm hCn hnew hdec g1 g4 g5 g6 c1
      go_wp2_with fail
      refine (visit_any AC cc HRC.out hf1 ⟨_, HP.out⟩ HCN.out (by omega)).mono ?_
      rintro e w6 ⟨rfl, hv6, hf6⟩
      go_wp2
      go_roundg (2 * (n - cnt n (visF R s0 C).1) + (visF R s0 C).2.length)
      case measure => rw [HM.out]; exact HDEC.out
      case rel => exact ⟨_, _, hv6, HNEW.out, hf6, rfl⟩
end Go.Proofs.Ytkbfnhkcmelneaa

