/- Walks over the reference of layer 30: Complete, Abort, Wake. -/
import Derived.Test.YtgbkgiglagfciaaSuspR4
namespace Go.Proofs.Ytgbkgiglagfciaa
open Go.RowKit

set_option maxHeartbeats 400000 in
theorem rabort_any {b : Nat} {F : List Nat} {R : RSeq} {w : World} (h : RefAt w b F R) (hn : R.ord.length ≤ 64) (hg : R.good.length ≤ 256) :
    Calls Try.prog 26 #[.pointer (some ⟨b, 0, none⟩)] w (RefRet w b F R.abort.1 (.int .i64 R.abort.2)) := by
  have H := hide h
  obtain ⟨vo, A, cp, vg, hb, hf, hcap, hp⟩ := h
  have c3 := hb.cell 3
  simp [refCells] at c3
  clear hb hp
  unfold RSeq.abort
  cases hd : R.down
  · rw [hd] at c3
    clear hd
    go_enter Try.func26, Try.ntmps26
    go_wp2_with fail
    go_ret
    exact ⟨rfl, F, H.out, Fr.refl _ _, fun _ hg => .inl hg⟩
  · rw [hd] at c3
    clear hd
    go_enter Try.func26, Try.ntmps26
    go_wp2_with fail
    refine (rundo_any 20 H.out hn hg).mono ?_
    rintro e w1 ⟨rfl, hx⟩
    have HX := hide hx
    clear hx
    go_wp2
    go_ret
    exact ⟨rfl, HX.out⟩
set_option maxHeartbeats 400000 in
theorem rwake_any {b : Nat} {F : List Nat} {R : RSeq} {w : World} (h : RefAt w b F R) (hn : R.ord.length ≤ 64) (hg : R.good.length ≤ 256) :
    Calls Try.prog 27 #[.pointer (some ⟨b, 0, none⟩)] w (RefRet w b F R.wake.1 (.int .i64 R.wake.2)) := by
  have H := hide h
  obtain ⟨vo, A, cp, vg, hb, hf, hcap, hp⟩ := h
  have c3 := hb.cell 4
  simp [refCells] at c3
  clear hb hp
  unfold RSeq.wake
  cases hd : R.sleeps
  · rw [hd] at c3
    clear hd
    go_enter Try.func27, Try.ntmps27
    go_wp2_with fail
    go_ret
    exact ⟨rfl, F, H.out, Fr.refl _ _, fun _ hg => .inl hg⟩
  · rw [hd] at c3
    clear hd
    go_enter Try.func27, Try.ntmps27
    go_wp2_with fail
    refine (rundo_any 0 H.out hn hg).mono ?_
    rintro e w1 ⟨rfl, hx⟩
    have HX := hide hx
    clear hx
    go_wp2
    go_ret
    exact ⟨rfl, HX.out⟩

theorem good_keep {w1 w3 : World} {b : Nat} {cs : Array Value} {n m : Nat} {xs : List Value} {o : Obj} {vg : Value} (hb : Blk w1 b 74 cs) (hown : w1.ownsRow m 30 2 vg n xs) (hg : ((w1.alloc o).drew).grownBy w3 vg.ownBlock) :
    Blk w3 b 74 cs ∧ Fr vg.ownBlock.toList w1 w3 := by
  have hf : Fr vg.ownBlock.toList w1 w3 := (((Fr.refl _ _).alloc _).drew).grown hg (fun g e => .inl (by rw [e]; simp))
  refine ⟨hb.fr hf (fun hm => ?_), hf⟩
  obtain ⟨_, _, cs', hbb⟩ := own_block hown (g := b) (by simpa using hm)
  exact Blk.ne_ hbb hb (by decide) rfl
theorem ref_good {w1 w3 : World} {b : Nat} {F : List Nat} {R : RSeq} {vo : Value} {A' Ag A3 : Option Addr} {cp cpg cp3 p d : Nat} (hf : b ∈ F) (hcp : R.plan.length ≤ cp) (hp : RefParts w1 F R.ord R.plan R.good vo A' (.slice Ag R.good.length cpg))
    (hb3 : Blk w3 b 74 (refCells vo A' cp (.slice Ag R.good.length cpg) R)) (hown3 : w3.ownsRow 0 30 2 (.slice A3 (R.good.length + 1) cp3) (R.good.length + 1) (opCells R.good ++ [nv p, nv d]))
    (hf3 : Fr (Value.ownBlock (.slice Ag R.good.length cpg)).toList w1 w3) (hat3 : Value.ownBlock (.slice A3 (R.good.length + 1) cp3) = Value.ownBlock (.slice Ag R.good.length cpg) ∨ Value.ownBlock (.slice A3 (R.good.length + 1) cp3) = some (w1.heap.size + 1)) :
    RefAt (w3.setCell ⟨b, 2, none⟩ (.slice A3 (R.good.length + 1) cp3)) b (F ++ (Value.ownBlock (.slice A3 (R.good.length + 1) cp3)).toList) { R with good := R.good ++ [(p, d)] } ∧ Fr F w1 (w3.setCell ⟨b, 2, none⟩ (.slice A3 (R.good.length + 1) cp3)) ∧
      ∀ g, g ∈ F ++ (Value.ownBlock (.slice A3 (R.good.length + 1) cp3)).toList → g ∈ F ∨ w1.heap.size ≤ g := by
  have hnew : ∀ g, Value.ownBlock (.slice A3 (R.good.length + 1) cp3) = some g → g ∈ F ∨ w1.heap.size ≤ g := fun g hg => by
    rcases hat3 with h | h
    · exact .inl (hp.fg g (h.symm.trans hg))
    · rw [h] at hg
      injection hg with hg
      exact .inr (by omega)
  have hsz : (refCells vo A' cp (.slice Ag R.good.length cpg) R).setIfInBounds 2 (.slice A3 (R.good.length + 1) cp3) = refCells vo A' cp (.slice A3 (R.good.length + 1) cp3) { R with good := R.good ++ [(p, d)] } := rfl
  have hb4 := hb3.set_ 2 (.slice A3 (R.good.length + 1) cp3)
  rw [hsz] at hb4
  have hpar : RefParts w3 (F ++ (Value.ownBlock (.slice A3 (R.good.length + 1) cp3)).toList) R.ord R.plan (R.good ++ [(p, d)]) vo A' (.slice A3 (R.good.length + 1) cp3) := by
    refine ⟨own_fr hp.own hf3 fun g hg hm => ?_, hp.hplan.fr hf3 fun hl ad e hm => ?_, ?_, fun hl ad e hm => ?_, fun g hg => by simp [hp.fo g hg], fun hl ad e => by simp [hp.fp hl ad e], fun g hg => by simp [hg]⟩
    · obtain ⟨_, _, cs1, h1⟩ := own_block hp.own hg
      obtain ⟨_, _, cs2, h2⟩ := own_block hp.hgood (g := g) (by simpa using hm)
      exact Blk.ne_ h1 h2 (by decide) rfl
    · exact hp.apart hl ad e (by simpa using hm)
    · rw [List.length_append, opCells_snoc]
      exact hown3
    · rcases hat3 with h | h
      · exact hp.apart hl ad e (h.symm.trans hm)
      · obtain ⟨ob, oo, cs, e', hb', _⟩ := hp.hplan hl
        rw [e] at e'
        cases e'
        rw [h] at hm
        injection hm with hm
        have := hb'.lt
        simp only at hm
        omega
  refine ⟨⟨vo, A', cp, _, hb4, by simp [hf], hcp, hpar.frb hb3 ((Fr.refl _ _).set (.inl (by simp)) _)⟩, ?_, fun g hg => ?_⟩
  · exact (hf3.mono (fun k _ hk => hp.fg k (by simpa using hk))).set (.inl hf) _
  · rcases List.mem_append.1 hg with h | h
    · exact .inl h
    · exact hnew g (by simpa using h)
set_option maxHeartbeats 4000000 in
set_option maxRecDepth 100000 in
theorem rcomplete_any {b : Nat} {F : List Nat} {R : RSeq} {w : World} (r : Int) (h : RefAt w b F R) (hn : R.ord.length ≤ 64) (hg : R.good.length ≤ 256) :
    Calls Try.prog 24 #[.pointer (some ⟨b, 0, none⟩), .int .i64 r] w (RefRet w b F (R.complete r).1 (.int .i64 (R.complete r).2)) := by
  obtain ⟨i0, hi0, hz0, hz1, hz2⟩ := info_parts op_info
  have HI := hide (And.intro hi0 (And.intro hz0 (And.intro hz1 hz2)))
  clear hi0 hz0 hz1 hz2
  have H := hide h
  obtain ⟨vo, A, cp, vg, hb, hf, hcap, hp⟩ := h
  have c1 := hb.cell 1
  have c2 := hb.cell 2
  have c3 := hb.cell 3
  have c6 := hb.cell 6
  simp [refCells] at c1 c2 c3 c6
  have f1 := hb.frozen 1
  have f2 := hb.frozen 2
  have f6 := hb.frozen 6
  have hblt := hb.lt
  have HB := hide hb
  have HP := hide hp
  obtain ⟨Ag, cpg, rfl, -, -, -⟩ := own_slice hp.hgood
  clear hb hp
  generalize hres : R.complete r = res
  have HRES := hide hres
  clear hres
  cases hpl : R.plan with
  | nil =>
    rw [hpl] at c1
    simp at c1
    have HPL := hide hpl
    clear hpl hcap
    go_enter Try.func24, Try.ntmps24
    go_wp2_with fail
    go_ret
    have e : res = (R, 9) := by rw [← HRES.out]; simp [RSeq.complete, HPL.out]
    rw [e]
    exact ⟨rfl, F, H.out, Fr.refl _ _, fun _ hg => .inl hg⟩
  | cons x t =>
    obtain ⟨p, d⟩ := x
    have hplan := HP.out.hplan
    rw [hpl] at c1 hcap hplan
    obtain ⟨ob, oo, cs, rfl, hbo, hco⟩ := hplan (by simp)
    have k1 := (hbo.cell _).trans (hco 0 (nv p) rfl)
    have k2 := (hbo.cell _).trans (hco 1 (nv d) rfl)
    simp only [Nat.add_zero] at k1
    have hob := hbo.lt
    simp at c1 hcap
    have hx : (((t.length : Int) + 1) == 0) = false := by rw [beq_eq_false_iff_ne]; omega
    have HPLAN := hide hplan
    have HPL := hide hpl
    have HBO := hide hbo
    have HCO := hide hco
    clear hplan hpl hbo hco
    go_enter Try.func24, Try.ntmps24
    go_upto_region 8 with (fail)
    obtain ⟨A', hA'⟩ : ∃ A', A' = if cp = 1 then some (⟨ob, oo, none⟩ : Addr) else some ⟨ob, oo + 2, none⟩ := ⟨_, rfl⟩
    rw [← hA']
    have hpt : 0 < t.length → A' = some ⟨ob, oo + 2, none⟩ := fun h => by rw [hA', if_neg (by omega)]
    have hfs : Fr [b] w (w.setCell ⟨b, 1, none⟩ (.slice A' t.length (cp - 1))) := (Fr.refl _ _).set (.inl (by simp)) _
    have hp0 := HP.out.frb HB.out hfs
    have hb0 := HB.out.set_ 1 (.slice A' t.length (cp - 1))
    have hbo0 := HBO.out.fr hfs (fun hm => Blk.ne_ HBO.out HB.out (by decide) (by simpa using hm))
    have hp1 : RefParts (w.setCell ⟨b, 1, none⟩ (.slice A' t.length (cp - 1))) F R.ord t R.good vo A' (.slice Ag R.good.length cpg) := by
      refine ⟨hp0.own, fun hl => ⟨ob, oo + 2, cs, hpt hl, hbo0, fun i u hi => ?_⟩, hp0.hgood, fun hl ad e => ?_, hp0.fo, fun hl ad e => ?_, hp0.fg⟩
      · rw [show oo + 2 + i = oo + (i + 2) by omega]
        exact HCO.out (i + 2) u (by simpa [opCells] using hi)
      · rw [hpt hl] at e
        cases e
        exact HP.out.apart (by rw [HPL.out]; simp) ⟨ob, oo, none⟩ rfl
      · rw [hpt hl] at e
        cases e
        exact HP.out.fp (by rw [HPL.out]; simp) ⟨ob, oo, none⟩ rfl
    have hp2 := hp1.fr ((Fr.refl [] _).alloc (.cells #[.int .i64 p, .int .i64 d] 30)) (by simp)
    have hb2 := hb0.alloc (.cells #[.int .i64 p, .int .i64 d] 30)
    have hfr2 : Fr [b] w ((w.setCell ⟨b, 1, none⟩ (.slice A' t.length (cp - 1))).alloc (.cells #[.int .i64 p, .int .i64 d] 30)) := hfs.alloc _
    have hloc := Blk.new (w.setCell ⟨b, 1, none⟩ (.slice A' t.length (cp - 1))) 30 #[.int .i64 p, .int .i64 d]
    have hls : (w.setCell ⟨b, 1, none⟩ (.slice A' t.length (cp - 1))).heap.size = w.heap.size := by simp
    rw [hls] at hloc
    generalize ((w.setCell ⟨b, 1, none⟩ (.slice A' t.length (cp - 1))).alloc (.cells #[.int .i64 p, .int .i64 d] 30)) = w1 at hp2 hb2 hfr2 hloc ⊢
    have hlx : w.heap.size ≤ w.heap.size := Nat.le_refl _
    generalize hlxe : w.heap.size = lx at hloc ⊢
    have l0 := hloc.cell 0
    have l1 := hloc.cell 1
    simp at l0 l1
    have hll := hloc.lt
    have HLX := hide hlxe
    have HB2 := hide hb2
    have hcp : t.length ≤ cp - 1 := by omega
    have HCP := hide hcp
    clear hcp
    have HP2 := hide hp2
    clear c1 c2 c3 c6 f1 f2 f6 hA' hpt hfs hp0 hb0 hbo0 hp1 hls hlx hlxe k1 k2 hob hblt hcap HCO HBO HPLAN hloc hp2
    have c2 := hb2.cell 2
    have c3 := hb2.cell 3
    have c6 := hb2.cell 6
    simp [refCells] at c2 c3 c6
    have f2 := hb2.frozen 2
    have f6 := hb2.frozen 6
    have hblt := hb2.lt
    clear hb2
    have href : RefAt w1 b F { R with plan := t } := ⟨vo, A', cp - 1, .slice Ag R.good.length cpg, HB2.out, hf, HCP.out, HP2.out⟩
    have HREF := hide href
    clear href
    cases hd : R.down
    · rw [hd] at c3
      have HD := hide hd
      clear hd
      by_cases hz : R.code = 0
      · have hzb : (R.code == 0) = true := by rw [beq_iff_eq]; exact hz
        have HZ := hide hz
        clear hz
        have href2 : RefAt (w1.setCell ⟨b, 6, none⟩ (.int .i64 r)) b F { R with plan := t, code := r } := ⟨vo, A', cp - 1, .slice Ag R.good.length cpg, HB2.out.set_ 6 _, hf, HCP.out, HP2.out.frb HB2.out ((Fr.refl _ _).set (.inl (by simp)) _)⟩
        have HREF2 := hide href2
        clear href2
        go_wp2_with fail
        refine (settle_any HREF2.out).mono ?_
        rintro e w2 ⟨rfl, hat, hfr⟩
        go_wp2
        go_ret
        have e : res = (({ R with plan := t, code := r } : RSeq).settle, 0) := by rw [← HRES.out]; simp [RSeq.complete, HPL.out, HD.out, HZ.out]
        rw [e]
        exact ⟨rfl, F, hat, ((hfr2.set (.inl (by simp)) _).trans hfr).mono (fun k _ hk => by simp at hk; subst hk; exact hf), fun _ hg => .inl hg⟩
      · have hzb : (R.code == 0) = false := by rw [beq_eq_false_iff_ne]; exact hz
        have HZ := hide hz
        clear hz
        go_wp2_with fail
        refine (settle_any HREF.out).mono ?_
        rintro e w2 ⟨rfl, hat, hfr⟩
        go_wp2
        go_ret
        have e : res = (({ R with plan := t } : RSeq).settle, 0) := by rw [← HRES.out]; simp [RSeq.complete, HPL.out, HD.out, HZ.out]
        rw [e]
        exact ⟨rfl, F, hat, (hfr2.trans hfr).mono (fun k _ hk => by simp at hk; subst hk; exact hf), fun _ hg => .inl hg⟩
    · rw [hd] at c3
      have HD := hide hd
      clear hd
      by_cases hr : r = 0
      · subst hr
        go_wp2_with fail
        have hsz2 := hfr2.size
        go_region_law ((refine step_append_row _ (by rfl) (.tmp 50) (.tmp 52) 31 (by rfl) 0 30 i0 (.agg #[.int .i64 0, .int .i64 0]) 2 16 Try.underlying31 HI.out.1 HI.out.2.1 HI.out.2.2.1 HI.out.2.2.2 rfl (by omega) (.slice Ag R.good.length cpg) R.good.length (opCells R.good) (by rfl) (by exact own_fr HP2.out.hgood (((Fr.refl [] _).alloc _).drew) (by simp)) (some ⟨w1.heap.size, 0, none⟩) 1 1 [nv p, nv d] (by rfl) (by rfl) (by exact row_lit _ _ _ rfl) (one2 _ _) (by simp only [maxLen]; omega) (by omega) (by omega) ?_; intro v3 w3 hown3 hg3 hat3; obtain ⟨hb3, hf3⟩ := good_keep HB2.out HP2.out.hgood hg3; obtain ⟨A3, cp3, rfl, -, -, -⟩ := own_slice hown3; have d2 := hb3.cell 2; have d5 := hb3.frozen 2; simp [refCells] at d2))
        all_goals
          simp only [World.size_drew, World.size_alloc] at hat3
          obtain ⟨hrg, hfg, hgg⟩ := ref_good (R := { R with plan := t }) hf HCP.out HP2.out hb3 hown3 hf3 hat3
          have HRG := hide hrg
          have HFG := hide hfg
          have HGG := hide hgg
          clear hrg hfg hgg hb3 hown3 hat3 hg3 d2 d5
          go_wp2_with fail
          refine (settle_any HRG.out).mono ?_
          rintro e w4 ⟨rfl, hat4, hfr4⟩
          go_wp2
          go_ret
          have e : res = (({ R with plan := t, good := R.good ++ [(p, d)] } : RSeq).settle, 0) := by rw [← HRES.out]; simp [RSeq.complete, HPL.out, HD.out]
          rw [e]
          refine ⟨rfl, _, hat4, ?_, fun g hg => ?_⟩
          · have h1 : Fr F w w1 := hfr2.mono (fun k _ hk => by simp at hk; subst hk; exact hf)
            exact (h1.trans HFG.out).step hfr4 (fun i hi => .inl (by simp at hi; subst hi; exact hf))
          · rcases HGG.out g hg with h | h
            · exact .inl h
            · exact .inr (by omega)
      · have hrb : (r == 0) = false := by rw [beq_eq_false_iff_ne]; exact hr
        have HRN := hide hr
        clear hr
        go_wp2_with fail
        refine (rundo_any r HREF.out hn hg).mono ?_
        rintro e w2 ⟨rfl, F', hat, hfr, hff⟩
        have HAT := hide hat
        have HFF := hide hff
        clear hat hff
        go_wp2
        go_ret
        have e : res = (({ R with plan := t } : RSeq).undo r, 0) := by rw [← HRES.out]; simp [RSeq.complete, HPL.out, HD.out, HRN.out]
        rw [e]
        have h1 : Fr F w w1 := hfr2.mono (fun k _ hk => by simp at hk; subst hk; exact hf)
        refine ⟨rfl, F', HAT.out, h1.trans hfr, fun g hg => ?_⟩
        rcases HFF.out g hg with h | h
        · exact .inl h
        · have := hfr2.size
          exact .inr (by omega)
end Go.Proofs.Ytgbkgiglagfciaa
