/- Walks: law31's awake. -/
import Derived.Test.YtdocdgghphhdpaaSchW7Mg
import Derived.Test.YtdocdgghphhdpaaSchW8Mg
import Derived.Test.YtdocdgghphhdpaaMgResumeDrives18
namespace Go.Proofs.Ytdocdgghphhdpaa
open Go.RowKit

theorem own_slice' {w : World} {base : Nat} {e : TypeId} {size : Nat} {v : Value} {n : Nat} {xs : List Value} (h : w.ownsRow base e size v n xs) :
    ∃ A cp, v = .slice A n cp ∧ n ≤ cp ∧ Row w A xs := by
  rcases h.2 with ⟨h0, h1⟩ | ⟨g, cap, cur, hv, hb, hh, hn, _⟩
  · subst h0
    subst h1
    exact ⟨none, 0, rfl, Nat.le_refl _, Row.of_own h⟩
  · subst hv
    exact ⟨_, cap, rfl, hn, Row.of_own h⟩
def demoSl : List Slt := [⟨0, 0, 0, 3⟩, ⟨1, 1, 0, 2⟩, ⟨2, 0, 3, 7⟩]
theorem demo_sched : schedM 3 [(2, 0)] [3, 2, 4] 2 = (demoSl, 0) := by decide +kernel
theorem demo_cp : cpathM 3 [(2, 0)] [3, 2, 4] = (7, 0) := by decide +kernel
theorem demo_ver : verM 3 [(2, 0)] [3, 2, 4] 1 (demoSl.map toR) = 1 := by decide +kernel
theorem demo_mk : mkR (demoSl.map toR) = 7 := by decide +kernel

set_option maxHeartbeats 2000000 in
set_option maxRecDepth 100000 in
theorem awake31_any (w : World) : Calls Try.prog 50 #[] w fun e w' => e = .returned (.bool true) ∧ Fr [] w w' := by
  have hl0 := row_lit w (pcs [(2, 0)]).toArray 76 rfl
  have hd := row_lit (w.alloc (.cells (pcs [(2, 0)]).toArray 76)) #[.int .u64 3, .int .u64 2, .int .u64 4] 33 rfl
  have hl : Row ((w.alloc (.cells (pcs [(2, 0)]).toArray 76)).alloc (.cells #[.int .u64 3, .int .u64 2, .int .u64 4] 33)) _ _ := hl0.fr0 ((Fr.refl [] _).alloc _)
  have hf0 : Fr [] w ((w.alloc (.cells (pcs [(2, 0)]).toArray 76)).alloc (.cells #[.int .u64 3, .int .u64 2, .int .u64 4] 33)) := ((Fr.refl [] _).alloc _).alloc _
  have HL := hide hl
  have HD := hide hd
  clear hl hl0 hd
  go_enter Try.func50, Try.ntmps50
  go_wp2_with fail
  refine (schedule31_any 3 2 (some ⟨w.heap.size, 0, none⟩) (some ⟨w.heap.size + 1, 0, none⟩) 1 3 [(2, 0)] [3, 2, 4] _ HL.out (by have h := HD.out; simp at h; exact h) (by simp)).mono ?_
  rintro e w1 ⟨v1, rfl, hown1, hf1⟩
  rw [demo_sched] at hown1 ⊢
  obtain ⟨A1, c1, rfl, hcp, hrow1⟩ := own_slice' hown1
  have hfw1 := hf0.call hf1
  have HL1 := hide (HL.out.fr0 hf1)
  have HD1 := hide (HD.out.fr0 hf1)
  have HS1 := hide (show Row w1 A1 (rcells (demoSl.map toR)) by rw [rcells_toR]; exact hrow1)
  clear hown1 hrow1 hf1 hf0 HL HD
  go_wp2_with fail
  refine (critical31_any 3 (some ⟨w.heap.size, 0, none⟩) (some ⟨w.heap.size + 1, 0, none⟩) 1 3 [(2, 0)] [3, 2, 4] _ HL1.out (by have h := HD1.out; simp at h; exact h) (by simp)).mono ?_
  rintro e w2 ⟨rfl, hf2⟩
  rw [demo_cp]
  have hfw2 := hfw1.call hf2
  have HL2 := hide (HL1.out.fr0 hf2)
  have HD2 := hide (HD1.out.fr0 hf2)
  have HS2 := hide (HS1.out.fr0 hf2)
  clear hf2 hfw1 HL1 HD1 HS1
  go_wp2_with fail
  refine (makespan31_any A1 c1 (demoSl.map toR) w2 HS2.out (by simp [demoSl])).mono ?_
  rintro e w3 ⟨rfl, hf3⟩
  rw [demo_mk]
  have hfw3 := hfw2.call hf3
  have HL3 := hide (HL2.out.fr0 hf3)
  have HD3 := hide (HD2.out.fr0 hf3)
  have HS3 := hide (HS2.out.fr0 hf3)
  clear hf3 hfw2 HL2 HD2 HS2
  go_wp2_with fail
  refine (equalSlots_any A1 (some ⟨w3.heap.size, 0, none⟩) c1 3 (demoSl.map toR) (demoSl.map toR) _ (HS3.out.fr0 ((Fr.refl [] _).alloc _)) (row_lit w3 _ _ rfl) (by simp [demoSl])).mono ?_
  rintro e w4 ⟨rfl, hf4⟩
  rw [decide_eq_true rfl]
  have hf34 : Fr [] w3 w4 := ((Fr.refl [] _).alloc _).call hf4
  have hfw4 := hfw3.call hf34
  have HL4 := hide (HL3.out.fr0 hf34)
  have HD4 := hide (HD3.out.fr0 hf34)
  have HS4 := hide (HS3.out.fr0 hf34)
  clear hf4 hf34 hfw3 HL3 HD3 HS3
  go_wp2_with fail
  refine (verify31_any 3 1 (some ⟨w.heap.size, 0, none⟩) (some ⟨w.heap.size + 1, 0, none⟩) A1 1 3 c1 [(2, 0)] [3, 2, 4] (demoSl.map toR) _ HL4.out (by have h := HD4.out; simp at h; exact h) HS4.out (by simp) (by simp [demoSl]) (by simpa [demoSl] using hcp) (by simp [demoSl, toR, RFits])).mono ?_
  rintro e w5 ⟨rfl, hf5⟩
  rw [demo_ver]
  go_wp2
  go_ret
  exact ⟨rfl, hfw4.call hf5⟩
end Go.Proofs.Ytdocdgghphhdpaa

/- Plain: a device tree put into D0 in the order of a schedule for the links from children to parents. -/
namespace Go.Proofs.Ytdocdgghphhdpaa
open Go.RowKit

/-- The links from children to parents. -/
def parR (C : TC) : Nat → RailD := fun i => ⟨C.par i, 0, 0⟩
theorem par_rank {C : TC} (hC : TOk C) : RankR C.nd (parR C) (fun i => i) := fun k hk => by
  have := hC.par k hk
  by_cases h : (parR C k).sup < 0
  · exact .inl h
  · obtain ⟨q, hq⟩ := Int.eq_ofNat_of_zero_le (show 0 ≤ (parR C k).sup by omega)
    have h2 : C.par k = (q : Int) := hq
    exact .inr ⟨q, hq, by omega, by show q < k; omega⟩
theorem par_links {C : TC} (hC : TOk C) : (∀ p ∈ rlN (parR C) C.nd, p.1 < C.nd ∧ p.2 < C.nd ∧ C.par p.1 = (p.2 : Int)) ∧ Acyc (rlN (parR C) C.nd) := by
  have hmem : ∀ p ∈ rlN (parR C) C.nd, p.1 < C.nd ∧ p.2 < C.nd ∧ C.par p.1 = (p.2 : Int) := fun p hp => by
    obtain ⟨a, b⟩ := rlN_mem hp
    have h2 : C.par p.1 = (p.2 : Int) := b
    have := hC.par p.1 a
    exact ⟨a, by omega, h2⟩
  refine ⟨hmem, ?_⟩
  have hr : ∀ a b, Req (rlN (parR C) C.nd) a b → b < a := fun a b hab => by
    induction hab with
    | one hp =>
      have h1 := hmem _ hp
      have h2 := hC.par _ h1.1
      simp only at h1 h2
      omega
    | step hp _ ih =>
      have h1 := hmem _ hp
      have h2 := hC.par _ h1.1
      simp only at h1 h2
      omega
  intro a ha
  have := hr a a ha
  omega
theorem par_mem {C : TC} : ∀ {n i q : Nat}, i < n → C.par i = (q : Int) → (i, q) ∈ rlN (parR C) n
  | 0, _, _, h, _ => by omega
  | n + 1, i, q, h, hq => by
    rw [rlN]
    by_cases e : i = n
    · subst e
      have h1 : (parR C i).sup = (q : Int) := hq
      rw [if_pos (by omega), h1]
      simp
    · have := par_mem (C := C) (n := n) (by omega) hq
      split
      · exact List.mem_append_left _ this
      · exact this
/-- Every beginning of a schedule was reached. -/
theorem pre_rch {N : Nat} {L : List (Nat × Nat)} {D : Nat → Nat} {W : Nat} {p : St} (h : RchS N L D W p) : ∀ i, i ≤ p.sl.length → ∃ q, RchS N L D W q ∧ q.sl = p.sl.take i := by
  induction h with
  | init => exact fun i _ => ⟨_, .init, by simp⟩
  | @step p q hp k ih =>
    intro i hi
    rcases step_cases k with ⟨d, w, _, _, rfl⟩ | ⟨_, t, _, rfl⟩
    · by_cases h1 : i ≤ p.sl.length
      · obtain ⟨r, hr, e⟩ := ih i h1
        refine ⟨r, hr, ?_⟩
        rw [e]
        exact (List.take_append_of_le_length h1).symm
      · refine ⟨_, .step hp k, ?_⟩
        rw [List.take_of_length_le]
        simp [beginS] at hi ⊢
        omega
    · exact ih i hi
theorem rs_sched {C : TC} (hC : TOk C) {u : List Nat} (hl : u.length = C.nd) (hu : ∀ x ∈ u, x ≤ 11) {W : Nat} (hW : 1 ≤ W ∧ W ≤ 16) :
    schedM (C.nd : Int) (rlLinks (parR C) C.nd) u (W : Int) = (sched C.nd (rlN (parR C) C.nd) (durF u) W, 0) ∧ Done C.nd (rlN (parR C) C.nd) (durF u) W (sched C.nd (rlN (parR C) C.nd) (durF u) W) := by
  obtain ⟨h1, h2⟩ := par_links hC
  have hn := hC.nd64
  have hck := rank_check (par_rank hC) (by omega)
  have hc : chkM (C.nd : Int) (rlLinks (parR C) C.nd) u (W : Int) = 0 := chkM_ok hck ⟨by omega, by omega, by omega, fun x hx => Nat.le_trans (hu x hx) (by unfold maxD; omega)⟩
  refine ⟨?_, sched_done (fun p hp => ⟨(h1 p hp).1, (h1 p hp).2.1⟩) h2 (by omega)⟩
  rw [schedM_ok hc, Int.toNat_natCast, Int.toNat_natCast, rlN_of, toNs_ofNs]
theorem addC_bd {C : TC} (hlim : ∀ k, k < C.n → (C.R k).up < 20) {now k B : Nat} {L : List Nat} (hc : Chn C.n C.R k L) (hnow : now ≤ B) : ∀ {r : RSt}, (∀ j, r.dn j ≤ B) → ∀ j, (addC C.R now k L r).1.dn j ≤ B + 20 * (L.length + 1) := by
  induction hc with
  | @root k hk hs =>
    intro r h j
    have hu := hlim k hk
    unfold addC
    split
    · show rup r.dn k ((max now (r.dn k) + (C.R k).up) % W64) j ≤ _
      by_cases e : j = k
      · subst e
        rw [rup_same]
        have h1 := Nat.mod_le (max now (r.dn j) + (C.R j).up) W64
        have h2 := h j
        simp only [List.length_nil]
        omega
      · rw [rup_other e]
        have := h j
        omega
    · have := h j
      show r.dn j ≤ _
      omega
  | @next k q L hk hs hc hn ih =>
    intro r h j
    have hu := hlim k hk
    unfold addC
    split
    · have hi := ih h
      generalize addC C.R now q L r = A at hi ⊢
      show rup A.1.dn k ((max (max now (r.dn k)) (A.1.dn q) + (C.R k).up) % W64) j ≤ _
      simp only [List.length_cons]
      by_cases e : j = k
      · subst e
        rw [rup_same]
        have h1 := Nat.mod_le (max (max now (r.dn j)) (A.1.dn q) + (C.R j).up) W64
        have h2 := h j
        have h3 := hi q
        omega
      · rw [rup_other e]
        have := hi j
        omega
    · have := h j
      show r.dn j ≤ _
      omega
theorem acqF_bd {C : TC} (hC : TOk C) (hlim : ∀ k, k < C.n → (C.R k).up < 20) {now : Nat} : ∀ (l : List Int) {r : RSt} {B : Nat}, (∀ v ∈ l, 0 ≤ v ∧ v < (C.n : Int)) → now ≤ B → (∀ j, r.dn j ≤ B) → ∀ j, (acqF C now l r).1.dn j ≤ B + 1300 * l.length
  | [], _, _, _, _, h, j => by simpa [acqF] using h j
  | v :: l, r, B, hv, hB, h, j => by
    have h0 := hv v (List.mem_cons_self ..)
    obtain ⟨hch, hcl⟩ := hC.ch v.toNat (by omega)
    have h1 := addC_bd hlim hch hB (r := { r with clk := now }) h
    have h1b : ∀ j, (addC C.R now v.toNat (C.ch v.toNat) { r with clk := now }).1.dn j ≤ B + 1300 := fun j => Nat.le_trans (h1 j) (by omega)
    have h2 := acqF_bd hC hlim (now := now) l (B := B + 1300) (fun v hm => hv v (List.mem_cons_of_mem _ hm)) (by omega) h1b j
    rw [acqF, List.length_cons]
    simp only
    omega
/-- A device goes from D3Cold to D0 below a parent in D0. -/
theorem set_zero {C : TC} {s : TSt} {now p : Nat} (hp : p < C.nd) (hst : s.st p = 4) (hpar : ∀ q : Nat, C.par p = (q : Int) → s.st q = 0) (hclk : s.clk ≤ now) (hnow : now ≤ MaxT) :
    setM C now (p : Int) 0 s = (⟨rup s.st p 0, (acqF C now (C.rl p 0) s.r).1, now⟩, (acqF C now (C.rl p 0) s.r).2, 0) := by
  have hnb : ¬ Blocked C s p 0 := by
    rintro (⟨h1, h2⟩ | ⟨c, _, _, h3⟩)
    · obtain ⟨q, hq⟩ := Int.eq_ofNat_of_zero_le h1
      rw [hq, Int.toNat_natCast, hpar q hq] at h2
      omega
    · omega
  have hacq : acqs C s p 0 = C.rl p 0 := by
    unfold acqs
    rw [hst]
    show diffM (C.rl p 0) [] = _
    exact diff_nil _
  have hrel : rels C s p 0 = [] := by
    unfold rels
    rw [hst]
    show (diffM [] _).reverse = []
    rfl
  rw [setM, if_neg (by omega), Int.toNat_natCast, show (0 : Int).toNat = 0 from rfl, if_neg hnb, setOk, hacq, hrel]
  simp only [relF, List.append_nil]
/-- After i slots of the schedule. -/
structure RsI (C : TC) (S : List Slt) (i : Nat) (s : TSt) : Prop where
  inv : TInv C s
  st : ∀ p, s.st p = if p ∈ (S.take i).map Slt.d then 0 else 4
  clk : ∀ x ∈ S.drop i, s.clk ≤ x.s
  dn : ∀ j, s.r.dn j ≤ 100 + 84000 * i
theorem rs_start (C : TC) (S : List Slt) : RsI C S 0 tsz := ⟨tsz_inv C, fun p => by simp; rfl, fun _ _ => Nat.zero_le _, fun _ => Nat.zero_le _⟩
theorem rs_step {C : TC} (hC : TOk C) (hlim : ∀ k, k < C.n → (C.R k).up < 20) (hnd : C.nd ≤ 6) {D : Nat → Nat} {W : Nat} (hD : ∀ d, D d ≤ 11) {S : List Slt} (hS : Done C.nd (rlN (parR C) C.nd) D W S) {i : Nat} {x : Slt} (hx : S[i]? = some x) {s : TSt} (h : RsI C S i s) :
    (setM C x.s (x.d : Int) 0 s).2.2 = 0 ∧ x.d < C.nd ∧ RsI C S (i + 1) (setM C x.s (x.d : Int) 0 s).1 := by
  have hxm := List.mem_of_getElem? hx
  have hmem : x ∈ (finS C.nd (rlN (parR C) C.nd) D W).sl := by rw [← hS.eq]; exact hxm
  have hxn := (hS.inv.lt x hmem).1
  have hil : i < S.length := (List.getElem?_eq_some_iff.1 hx).1
  have htm := hS.inv.time x hmem
  have hbd := hS.inv.bound.2 x hmem
  have htot := tot_le (B := 11) (fun d _ => hD d) hS.inv
  have hs66 : x.s ≤ 66 := by
    have : C.nd * 11 ≤ 66 := by omega
    omega
  have htake := take_succ_some hx
  have hnd2 : (S.map Slt.d).Nodup := by rw [hS.eq]; exact hS.inv.nodup
  have hnin : x.d ∉ (S.take i).map Slt.d := fun hm => by
    have h1 : ((S.take (i + 1)).map Slt.d).Nodup := by
      rw [List.map_take]
      exact hnd2.sublist (List.take_sublist _ _)
    rw [htake, List.map_append, List.nodup_append] at h1
    exact h1.2.2 _ hm _ (by simp) rfl
  have hpar : ∀ q : Nat, C.par x.d = (q : Int) → s.st q = 0 := fun q hq => by
    obtain ⟨p, hp, e⟩ := pre_rch (fin_rch (N := C.nd) (L := rlN (parR C) C.nd) (D := D) (W := W)) (i + 1) (by rw [← hS.eq]; omega)
    rw [← hS.eq, htake] at e
    have hinv := hp.inv
    obtain ⟨y, hy, hyd, -⟩ := hinv.deps x (by rw [e]; simp) (x.d, q) (par_mem hxn hq) rfl
    rw [e, List.mem_append, List.mem_singleton] at hy
    rw [h.st q, if_pos]
    rcases hy with hy | rfl
    · exact List.mem_map.2 ⟨y, hy, hyd⟩
    · have h1 := hC.par y.d hxn
      simp only at hyd
      omega
  have hclk := h.clk x (by rw [drop_at (L := S.map Slt.d) (p := x.d) (i := i) (by simp [hx]) |> fun _ => List.drop_eq_getElem_cons hil]; simp [(List.getElem?_eq_some_iff.1 hx).2])
  have e := set_zero hxn (by rw [h.st, if_neg hnin]) hpar hclk (by unfold MaxT; omega)
  have hinv := setM_inv (now := x.s) hC h.inv (x.d : Int) 0
  have hrl : ∀ v ∈ C.rl x.d 0, 0 ≤ v ∧ v < (C.n : Int) := fun v hv => hC.rail x.d 0 hxn v hv
  have hb := acqF_bd hC hlim (now := x.s) (C.rl x.d 0) (r := s.r) (B := 100 + 84000 * i) hrl (by omega) h.dn
  have hl64 := hC.len x.d 0
  rw [e] at hinv ⊢
  refine ⟨rfl, hxn, hinv, fun q => ?_, fun y hy => ?_, fun j => ?_⟩
  · show rup s.st x.d 0 q = _
    rw [htake, List.map_append]
    by_cases e : q = x.d
    · subst e
      rw [rup_same, if_pos (by simp)]
    · rw [rup_other e, h.st q]
      simp [e]
  · show x.s ≤ y.s
    have h1 : S.Pairwise fun x y => x.s ≤ y.s := by rw [hS.eq]; exact hS.inv.order
    have h2 := h1.sublist (List.drop_sublist i S)
    rw [List.drop_eq_getElem_cons hil, (List.getElem?_eq_some_iff.1 hx).2, List.pairwise_cons] at h2
    exact h2.1 y hy
  · show (acqF C x.s (C.rl x.d 0) s.r).1.dn j ≤ _
    have := hb j
    omega
theorem rs_acc {C : TC} (hC : TOk C) (hnd : C.nd ≤ 6) {D : Nat → Nat} {W : Nat} {S : List Slt} (hS : Done C.nd (rlN (parR C) C.nd) D W S) {s : TSt} (h : RsI C S S.length s) {P : RP} (hP : P.n = C.n) {k : Nat} (hk : k < C.nd) : accM C P s (k : Int) 1099511627776 = true := by
  obtain ⟨L, hL⟩ := pth_ex hC k k (Nat.le_refl _) hk
  have hst : ∀ p, p < C.nd → s.st p = 0 := fun p hp => by
    obtain ⟨x, hx, e⟩ := hS.all p hp
    rw [h.st p, List.take_length, if_pos (List.mem_map.2 ⟨x, hx, e⟩)]
  rw [acc_path hC hL]
  refine List.all_eq_true.2 (fun p hp => ?_)
  have hpn := (hL.le hC p hp).2
  unfold accR
  rw [Bool.and_eq_true]
  refine ⟨decide_eq_true (hst p hpn), List.all_eq_true.2 (fun v hv => ?_)⟩
  have hb := hC.rail p 0 hpn v hv
  have h1 := h.inv.own v.toNat (by omega)
  have h2 := useN_pos (C := C) (d := p) (st := s.st) (j := v.toNat) (by
    rw [hst p hpn, Int.toNat_of_nonneg hb.1]
    exact hv) C.nd hpn
  have h3 : useF C s.st v.toNat = useN C s.st v.toNat C.nd := rfl
  have hd := h.dn v.toNat
  have hl := hS.len
  unfold powI useI
  rw [hP]
  simp only [Bool.and_eq_true, decide_eq_true_eq]
  refine ⟨⟨hb, by omega⟩, by omega⟩
end Go.Proofs.Ytdocdgghphhdpaa

