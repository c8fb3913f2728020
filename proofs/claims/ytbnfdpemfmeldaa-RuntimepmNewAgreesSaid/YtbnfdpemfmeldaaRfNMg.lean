/- Walks over the reference of chapter 28: New. -/
import Derived.Test.YtbnfdpemfmeldaaRfMemMg
import Derived.Test.YtbnfdpemfmeldaaRpmNMg
import Derived.Test.YtbnfdpemfmeldaaMgRuntimeNew5
import Derived.Test.YtbnfdpemfmeldaaMgRuntimeNew1
import Derived.Test.YtbnfdpemfmeldaaRpmSMg
namespace Go.Proofs.Ytbnfdpemfmeldaa
open Go.RowKit

def RNewRet (w : World) (A : Option Addr) (l : List ID) (e : Ending) (w' : World) : Prop :=
  (newE l ≠ 0 ∧ e = .returned (.tuple #[.pointer none, .int .i64 (newE l)]) ∧ Fr [] w w') ∨
  (newE l = 0 ∧ ∃ P : RL, e = .returned (.tuple #[.pointer (some ⟨P.b, 0, none⟩), .int .i64 0]) ∧ RgIn w' P l zeroS ∧ P.bot = w.heap.size ∧ P.top ≤ w'.heap.size ∧ P.bot ≤ P.top ∧ P.Ad = A ∧ Fr [] w w')
/-- The manager under construction. -/
structure RNIn (w wx : World) (A : Option Addr) (cp n : Nat) (b ga gu gs : Nat) (v : Value) : Prop where
  blk : Blk wx b 63 #[.slice A n cp, v, .slice (some ⟨ga, 0, none⟩) n n, .slice (some ⟨gu, 0, none⟩) n n, .slice (some ⟨gs, 0, none⟩) n n, .int .u64 0]
  on : FA wx ga 4 Value.bool n (fun _ => false)
  us : FA wx gu 3 nv n (fun _ => 0)
  sn : FA wx gs 28 uv n (fun _ => 0)
  lo : w.heap.size ≤ b ∧ w.heap.size ≤ ga ∧ w.heap.size ≤ gu ∧ w.heap.size ≤ gs
  fr : Fr [] w wx
def RN4 (w : World) (A : Option Addr) (cp n : Nat) (s5 : Value) (wx : World) : Prop := ∃ b ga gu gs, s5 = .pointer (some ⟨b, 0, none⟩) ∧ RNIn w wx A cp n b ga gu gs (.slice none 0 0)
theorem fa_of {α : Type} {W : World} {g : Nat} {t : TypeId} {e : α → Value} {n : Nat} {x : α} (h : W.heap[g]? = some (.cells (Array.replicate n (e x)) t (0, 0))) : FA W g t e n (fun _ => x) := by
  show Blk W g t _
  unfold Blk
  rw [h]
  congr 2
  rw [List.map_map]
  show _ = ((List.range n).map (fun _ => e x)).toArray
  rw [List.map_const', List.length_range]
  rfl
theorem heap4 (w : World) (o1 o2 o3 o4 : Obj) : (((((w.alloc o1).alloc o2).alloc o3).alloc o4).drew).heap[w.heap.size]? = some o1 ∧ (((((w.alloc o1).alloc o2).alloc o3).alloc o4).drew).heap[w.heap.size + 1]? = some o2 ∧ (((((w.alloc o1).alloc o2).alloc o3).alloc o4).drew).heap[w.heap.size + 1 + 1]? = some o3 ∧ (((((w.alloc o1).alloc o2).alloc o3).alloc o4).drew).heap[w.heap.size + 1 + 1 + 1]? = some o4 := by
  have z1 : (w.alloc o1).heap.size = w.heap.size + 1 := by simp
  have z2 : ((w.alloc o1).alloc o2).heap.size = w.heap.size + 1 + 1 := by simp
  have z3 : (((w.alloc o1).alloc o2).alloc o3).heap.size = w.heap.size + 1 + 1 + 1 := by simp
  have n1 := heap_alloc_new w o1
  have n2 := heap_alloc_new (w.alloc o1) o2
  have n3 := heap_alloc_new ((w.alloc o1).alloc o2) o3
  have n4 := heap_alloc_new (((w.alloc o1).alloc o2).alloc o3) o4
  rw [z1] at n2
  rw [z2] at n3
  rw [z3] at n4
  have b := fun (W : World) (o : Obj) (i : Nat) (hi : i < W.heap.size) => Below.heap_alloc W o i hi
  refine ⟨?_, ?_, ?_, n4⟩
  · exact (b _ o4 _ (by omega)).trans ((b _ o3 _ (by omega)).trans ((b _ o2 _ (by omega)).trans n1))
  · exact (b _ o4 _ (by omega)).trans ((b _ o3 _ (by omega)).trans n2)
  · exact (b _ o4 _ (by omega)).trans n3
theorem rn4_of {w W : World} {A : Option Addr} {cp n b ga gu gs : Nat} (hb : W.heap[b]? = some (.cells #[.slice A n cp, .slice none 0 0, .slice (some ⟨ga, 0, none⟩) n n, .slice (some ⟨gu, 0, none⟩) n n, .slice (some ⟨gs, 0, none⟩) n n, .int .u64 0] 63 (0, 0)))
    (h1 : W.heap[ga]? = some (.cells (Array.replicate n (.bool false)) 4 (0, 0))) (h2 : W.heap[gu]? = some (.cells (Array.replicate n (.int .i64 0)) 3 (0, 0))) (h3 : W.heap[gs]? = some (.cells (Array.replicate n (.int .u64 0)) 28 (0, 0)))
    (h4 : w.heap.size ≤ b ∧ w.heap.size ≤ ga ∧ w.heap.size ≤ gu ∧ w.heap.size ≤ gs) (h5 : Fr [] w W) : RN4 w A cp n (.pointer (some ⟨b, 0, none⟩)) W :=
  ⟨b, ga, gu, gs, rfl, hb, fa_of (e := Value.bool) (x := false) h1, fa_of (e := nv) (x := 0) h2, fa_of (e := uv) (x := 0) h3, h4, h5⟩
theorem u64_info1 : (Try.prog.info? 28).map (fun i => (i.zero, i.size, i.bytes)) = some (some (.int .u64 0), 1, 8) := by kernel_rfl
theorem make_u64s (n c : Nat) (hnc : n ≤ c) (hc : c ≤ 1000000) (w : World) : (Instr.makeSlice 61 (.int .i64 (n : Int)) (.int .i64 (c : Int))).run Try.prog w = .ok (.slice (some ⟨w.heap.size, 0, none⟩) n c) (w.alloc (.cells (Array.replicate c (.int .u64 0)) 28)) :=
  run_make_one 61 28 (.int .u64 0) 8 Try.underlying61 u64_info1 rfl n c hnc (by omega) hc w
theorem RNIn.fr0 {w wx wy : World} {A : Option Addr} {cp n b ga gu gs : Nat} {v : Value} (h : RNIn w wx A cp n b ga gu gs v) (k : Fr [] wx wy) : RNIn w wy A cp n b ga gu gs v :=
  ⟨h.blk.fr k (by simp), h.on.fr k (by simp), h.us.fr k (by simp), h.sn.fr k (by simp), h.lo, h.fr.call k⟩
theorem RNIn.grow {w wx wy : World} {A : Option Addr} {cp n b ga gu gs m : Nat} {v v0 : Value} {xs : List Value} (h : RNIn w wx A cp n b ga gu gs v) (ho : wx.ownsRow w.heap.size 67 2 v0 m xs) (k : Fr v0.ownBlock.toList wx wy) : RNIn w wy A cp n b ga gu gs v := by
  have key : ∀ {y : Nat} {t : TypeId} {cs : Array Value}, Blk wx y t cs → t ≠ 67 → y ∉ v0.ownBlock.toList := fun {y t cs} hb hne hm => by
    obtain ⟨_, _, cs2, hb2⟩ := own_block ho (show v0.ownBlock = some y by simpa using hm)
    exact Blk.ne_ hb2 hb (Ne.symm hne) rfl
  exact ⟨h.blk.fr k (key h.blk (by decide)), h.on.fr k (key h.on (by decide)), h.us.fr k (key h.us (by decide)), h.sn.fr k (key h.sn (by decide)), h.lo, h.fr.step k (fun i hi => .inr (own_block ho (by simpa using hi)).1)⟩
theorem RNIn.put {w wx : World} {A : Option Addr} {cp n b ga gu gs : Nat} {v : Value} (h : RNIn w wx A cp n b ga gu gs v) (v' : Value) : RNIn w (wx.setCell ⟨b, 1, none⟩ v') A cp n b ga gu gs v' := by
  have k : Fr [b] wx (wx.setCell ⟨b, 1, none⟩ v') := (Fr.refl _ _).set (.inl (by simp)) _
  refine ⟨h.blk.set_ 1 v', h.on.fr k ?_, h.us.fr k ?_, h.sn.fr k ?_, h.lo, h.fr.set (.inr h.lo.1) v'⟩
  · exact fun hm => Blk.ne_ h.on h.blk (by decide) (List.mem_singleton.1 hm)
  · exact fun hm => Blk.ne_ h.us h.blk (by decide) (List.mem_singleton.1 hm)
  · exact fun hm => Blk.ne_ h.sn h.blk (by decide) (List.mem_singleton.1 hm)
def SupIn (n : Nat) (d : ID) : Prop := ∀ s ∈ d.sup, 0 ≤ s ∧ s < (n : Int)
def RnL (w : World) (A : Option Addr) (cp : Nat) (l : List ID) (b ga gu gs : Nat) (m : Nat) (i : Value) (wr : World) : Prop :=
  ∃ (k : Nat) (v : Value), k ≤ l.length ∧ i = .int .i64 (k : Int) ∧ RNIn w wr A cp l.length b ga gu gs v ∧ wr.ownsRow w.heap.size 67 2 v (idLinks 0 (l.take k)).length (pcs (idLinks 0 (l.take k))) ∧ (∀ d ∈ l.take k, idOk l.length d ∧ SupIn l.length d) ∧ m = l.length - k
theorem newE_sup {l : List ID} {x : ID} (hx : x ∈ l) {y : Int} (hy : y ∈ x.sup) (hn : ¬ (0 ≤ y ∧ y < (l.length : Int))) (_h20 : l.length ≤ 20) (_hs : ∀ d ∈ l, d.sup.length ≤ 21) : newE l = 1 := by
  unfold newE
  split
  · obtain ⟨k, hk⟩ := List.getElem?_of_mem hx
    have hm : ((k : Int), y) ∈ idLinks 0 l := mem_idLinks.2 ⟨k, x, hk, by rw [Nat.zero_add]; exact mem_linkOf.2 ⟨rfl, .inr hy⟩⟩
    have hb : basicM (l.length : Int) (idLinks 0 l) = 1 := basicM_not (fun h => by
      have := h.2.2.2 _ hm
      exact hn ⟨this.2.2.1, this.2.2.2⟩)
    unfold checkM orderM
    rw [if_neg (by rw [hb]; decide)]
    exact hb
  · rfl
def RnB (w : World) (A : Option Addr) (cp : Nat) (l : List ID) (b ga gu gs k : Nat) (x : ID) (L : List (Int × Int)) (gd : Nat) (A' : Option Addr) (cp' : Nat) (m : Nat) (i : Value) (wr : World) : Prop :=
  ∃ (j : Nat) (v : Value), j ≤ x.sup.length ∧ i = .int .i64 (j : Int) ∧ RNIn w wr A cp l.length b ga gu gs v ∧ wr.ownsRow w.heap.size 67 2 v (L ++ (x.sup.take j).map fun s => ((k : Int), s)).length (pcs (L ++ (x.sup.take j).map fun s => ((k : Int), s))) ∧ (∀ s ∈ x.sup.take j, 0 ≤ s ∧ s < (l.length : Int)) ∧ Blk wr gd 30 #[.int .i64 x.par, .slice A' x.sup.length cp', .int .u64 (x.dl : Int)] ∧ m = x.sup.length - j
def RnC (w : World) (A : Option Addr) (cp : Nat) (l : List ID) (b ga gu gs k : Nat) (x : ID) (gd : Nat) (A' : Option Addr) (cp' : Nat) (wx : World) : Prop :=
  ∃ (L : List (Int × Int)) (v : Value), L = idLinks 0 (l.take k) ++ (if 0 ≤ x.par then [((k : Int), x.par)] else []) ∧ RNIn w wx A cp l.length b ga gu gs v ∧ wx.ownsRow w.heap.size 67 2 v L.length (pcs L) ∧ (∃ A7 c7, v = .slice A7 L.length c7) ∧ Blk wx gd 30 #[.int .i64 x.par, .slice A' x.sup.length cp', .int .u64 (x.dl : Int)]
set_option maxHeartbeats 8000000 in
set_option maxRecDepth 100000 in
theorem rnew28_any (A : Option Addr) (cp : Nat) (l : List ID) (w : World) (hr : IdsAt w A l) (hl : l.length ≤ 20) (hs : ∀ x ∈ l, x.sup.length ≤ 21) :
    Calls Try.prog 17 #[.slice A l.length cp] w (RNewRet w A l) := by
  have HR := hide hr
  have HS := hide hs
  have h64 : ¬ (64 : Int) < (l.length : Int) := by omega
  have m1 := make_bools l.length l.length (Nat.le_refl _) (by omega)
  have m2 := make_ints l.length l.length (Nat.le_refl _) (by omega)
  have m3 := make_u64s l.length l.length (Nat.le_refl _) (by omega)
  clear hr hs
  go_enter Try.func17, Try.ntmps17
  go_upto_region 4 with (fail)
  go_cut [5] (fun s5 wx => RN4 w A cp l.length s5 wx)
  case first =>
    go_region
    all_goals
      go_wp2
      go_meet
      first
        | exact rn4_of (heap4 w _ _ _ _).2.2.2 (heap4 w _ _ _ _).1 (heap4 w _ _ _ _).2.1 (heap4 w _ _ _ _).2.2.1 ⟨by omega, by omega, by omega, by omega⟩ (Fr.drew ((((Fr.refl [] w).alloc _).alloc _).alloc _ |>.alloc _))
        | exact rn4_of (heap4 w _ _ _ _).2.2.2 (heap4 w _ _ _ _).1 (heap4 w _ _ _ _).2.2.1 (heap4 w _ _ _ _).2.1 ⟨by omega, by omega, by omega, by omega⟩ (Fr.drew ((((Fr.refl [] w).alloc _).alloc _).alloc _ |>.alloc _))
        | exact rn4_of (heap4 w _ _ _ _).2.2.2 (heap4 w _ _ _ _).2.1 (heap4 w _ _ _ _).1 (heap4 w _ _ _ _).2.2.1 ⟨by omega, by omega, by omega, by omega⟩ (Fr.drew ((((Fr.refl [] w).alloc _).alloc _).alloc _ |>.alloc _))
        | exact rn4_of (heap4 w _ _ _ _).2.2.2 (heap4 w _ _ _ _).2.1 (heap4 w _ _ _ _).2.2.1 (heap4 w _ _ _ _).1 ⟨by omega, by omega, by omega, by omega⟩ (Fr.drew ((((Fr.refl [] w).alloc _).alloc _).alloc _ |>.alloc _))
        | exact rn4_of (heap4 w _ _ _ _).2.2.2 (heap4 w _ _ _ _).2.2.1 (heap4 w _ _ _ _).1 (heap4 w _ _ _ _).2.1 ⟨by omega, by omega, by omega, by omega⟩ (Fr.drew ((((Fr.refl [] w).alloc _).alloc _).alloc _ |>.alloc _))
        | exact rn4_of (heap4 w _ _ _ _).2.2.2 (heap4 w _ _ _ _).2.2.1 (heap4 w _ _ _ _).2.1 (heap4 w _ _ _ _).1 ⟨by omega, by omega, by omega, by omega⟩ (Fr.drew ((((Fr.refl [] w).alloc _).alloc _).alloc _ |>.alloc _))
  case rest =>
    obtain ⟨b, ga, gu, gs, rfl, hn⟩ := hcut
    obtain ⟨i0, hi0, hz0, hz1, hz2⟩ := info_parts link_info
    have HI := hide (And.intro hi0 (And.intro hz0 (And.intro hz1 hz2)))
    clear m1 m2 m3 h64 hi0 hz0 hz1 hz2
    go_wp2
    go_loopg [6] l.length (fun m i wr => RnL w A cp l b ga gu gs m i wr)
    case atStart => exact ⟨0, .slice none 0 0, by omega, rfl, hn, own_nil _ _ _ _, (fun d hd => by cases hd), rfl⟩
    case round =>
      clear hn
      obtain ⟨k, v, hk, rfl, hn, hown, hok, hmm⟩ := hrel
      have HM := hide hmm
      have HN := hide hn
      have HOK := hide hok
      have HOWN := hide hown
      obtain ⟨A7, c7, rfl, -, -, -⟩ := own_slice hown
      have hfr := hn.fr
      clear hmm hn hok hown
      have hT7 : (idLinks 0 (l.take k)).length ≤ 440 := by
        have := idLinks_bound (B := 21) 0 (l.take k) (fun d hd => HS.out d (List.mem_of_mem_take hd))
        have htl : (l.take k).length ≤ 20 := by rw [List.length_take]; omega
        omega
      by_cases hlt : k < l.length
      · obtain ⟨x, hx⟩ : ∃ x, l[k]? = some x := ⟨_, List.getElem?_eq_getElem hlt⟩
        obtain ⟨ob, oo, A', cp', rfl, esv, c0, c1, c2, -⟩ := (HR.out.fr0 hfr).el hx
        have hrs : Row w A' (x.sup.map (Value.int .i64)) := by
          obtain ⟨A2, cp2, e3, hrs0⟩ := HR.out.2 x (List.mem_of_getElem? hx)
          rw [esv] at e3
          injection e3 with e3
          rw [e3]
          exact hrs0
        have HX := hide hx
        have hkl : (k : Int) < (l.length : Int) := by omega
        have hsx := HS.out x (List.mem_of_getElem? hx)
        have HTK := hide (idLinks_take hx)
        have HRS := hide hrs
        clear hx hrs esv
        have hb1 := Blk.new wr 30 #[.int .i64 x.par, .slice A' x.sup.length cp', .int .u64 (x.dl : Int)]
        have hf1 : Fr [] wr (wr.alloc (.cells #[.int .i64 x.par, .slice A' x.sup.length cp', .int .u64 (x.dl : Int)] 30)) := (Fr.refl _ _).alloc _
        have HOWN1 := hide (own_fr HOWN.out hf1 (fun _ _ => by simp))
        have HN1 := hide (HN.out.fr0 hf1)
        go_upto_region 9 with (fail)
        generalize wr.alloc (.cells #[.int .i64 x.par, .slice A' x.sup.length cp', .int .u64 (x.dl : Int)] 30) = w1 at hb1 HOWN1 HN1 ⊢
        generalize wr.heap.size = gd at hb1 ⊢
        have d0 : w1.cell? ⟨gd, 0, none⟩ = some (.int .i64 x.par) := hb1.cell 0
        have d1 : w1.cell? ⟨gd, 1, none⟩ = some (.slice A' x.sup.length cp') := hb1.cell 1
        have d2 : w1.cell? ⟨gd, 2, none⟩ = some (.int .u64 (x.dl : Int)) := hb1.cell 2
        have HB1 := hide hb1
        have hfr1 := HN1.out.fr
        have hs4 : ¬ (1024 : Int) < (x.sup.length : Int) := by omega
        clear hb1 hf1 HOWN HN c0 c1 c2 hfr
        by_cases hv : idOk l.length x
        · have b1 : ¬ x.par < -1 := by have := hv.1; omega
          have b2 : ¬ (l.length : Int) ≤ x.par := by have := hv.2.1; omega
          have b3 : ¬ (1048576 : Int) < (x.dl : Int) := by have := hv.2.2; omega
          have HV := hide hv
          clear hv
          go_upto_if 54 with (fail)
          clear b1 b2 b3 hs4 d2
          go_cut [] (fun wx => RnC w (some ⟨ob, oo, none⟩) cp l b ga gu gs k x gd A' cp' wx)
          case first =>
            by_cases h0 : 0 ≤ x.par
            · have e1 : w1.cell? ⟨b, 1, none⟩ = some (.slice A7 (idLinks 0 (l.take k)).length c7) := HN1.out.blk.cell 1
              have f1 : w1.frozen? ⟨b, 1, none⟩ = false := HN1.out.blk.frozen 1
              go_wp2
              refine wp_region_T (fun w' => w'.cell? ⟨b, 1, none⟩ = some (.slice A7 (idLinks 0 (l.take k)).length c7) ∧ w'.cell? ⟨gd, 0, none⟩ = some (.int .i64 x.par)) 13 (by kernel_rfl) ?_
              have hS : (fun w' => w'.cell? ⟨b, 1, none⟩ = some (.slice A7 (idLinks 0 (l.take k)).length c7) ∧ w'.cell? ⟨gd, 0, none⟩ = some (.int .i64 x.par)) { w1 with drawn := w1.drawn + 1 } := ⟨e1, d0⟩
              refine wpAnyT_take (i := 0) (v := ?v0) rfl (by kernel_rfl) (by kernel_rfl) (fun _ _ _ h => h) (Or.inl ⟨by rfl, ?hy0⟩) hS ?rest0
              case hy0 =>
                intro wz hSw
                obtain ⟨s0, s1⟩ := hSw
                go_simp
                try rfl
              try simp only [Act.put, List.setIfInBounds_toArray, List.set_cons_zero, List.set_cons_succ, List.getElem_toArray, List.getElem_cons_zero]
              refine wpAnyT_take (i := 1) (v := ?v1) rfl (by kernel_rfl) (by kernel_rfl) (fun _ _ _ h => h) (Or.inl ⟨by rfl, ?hy1⟩) hS ?rest1
              case hy1 =>
                intro wz hSw
                obtain ⟨s0, s1⟩ := hSw
                go_simp
                try rfl
              try simp only [Act.put, List.setIfInBounds_toArray, List.set_cons_zero, List.set_cons_succ, List.getElem_toArray, List.getElem_cons_zero, List.getElem_cons_succ]
              refine wpAnyT_take (i := 2) (v := ?v2) rfl (by kernel_rfl) (by kernel_rfl) (fun _ _ _ h => h) (Or.inl ⟨by rfl, ?hy2⟩) hS ?rest2
              case hy2 =>
                intro wz hSw
                obtain ⟨s0, s1⟩ := hSw
                go_simp
                try rfl
              try simp only [Act.put, List.setIfInBounds_toArray, List.set_cons_zero, List.set_cons_succ, List.getElem_toArray, List.getElem_cons_zero, List.getElem_cons_succ]
              refine wpAnyT_take (i := 3) (v := ?v3) rfl (by kernel_rfl) (by kernel_rfl) (fun _ _ _ h => h) (Or.inl ⟨by rfl, ?hy3⟩) hS ?rest3
              case hy3 =>
                intro wz hSw
                obtain ⟨s0, s1⟩ := hSw
                go_simp
                try rfl
              try simp only [Act.put, List.setIfInBounds_toArray, List.set_cons_zero, List.set_cons_succ, List.getElem_toArray, List.getElem_cons_zero, List.getElem_cons_succ]
              refine wpAnyT_take (i := 4) (v := ?v4) rfl (by kernel_rfl) (by kernel_rfl) (fun _ _ _ h => h) (Or.inl ⟨by rfl, ?hy4⟩) hS ?rest4
              case hy4 =>
                intro wz hSw
                obtain ⟨s0, s1⟩ := hSw
                go_simp
                try rfl
              try simp only [Act.put, List.setIfInBounds_toArray, List.set_cons_zero, List.set_cons_succ, List.getElem_toArray, List.getElem_cons_zero, List.getElem_cons_succ]
              refine wpAnyT_take (i := 5) (v := ?v5) rfl (by kernel_rfl) (by kernel_rfl) (fun _ _ _ h => h) (Or.inl ⟨by rfl, ?hy5⟩) hS ?rest5
              case hy5 =>
                intro wz hSw
                obtain ⟨s0, s1⟩ := hSw
                go_simp
                try rfl
              try simp only [Act.put, List.setIfInBounds_toArray, List.set_cons_zero, List.set_cons_succ, List.getElem_toArray, List.getElem_cons_zero, List.getElem_cons_succ]
              refine wpAnyT_take (i := 6) (v := ?v6) rfl (by kernel_rfl) (by kernel_rfl) (fun _ _ _ h => h) (Or.inl ⟨by rfl, ?hy6⟩) hS ?rest6
              case hy6 =>
                intro wz hSw
                obtain ⟨s0, s1⟩ := hSw
                go_simp
                try rfl
              try simp only [Act.put, List.setIfInBounds_toArray, List.set_cons_zero, List.set_cons_succ, List.getElem_toArray, List.getElem_cons_zero, List.getElem_cons_succ]
              refine wpAnyT_take (i := 7) (v := ?v7) rfl (by kernel_rfl) (by kernel_rfl) (fun _ _ _ h => h) (Or.inl ⟨by rfl, ?hy7⟩) hS ?rest7
              case hy7 =>
                intro wz hSw
                obtain ⟨s0, s1⟩ := hSw
                go_simp
                try rfl
              try simp only [Act.put, List.setIfInBounds_toArray, List.set_cons_zero, List.set_cons_succ, List.getElem_toArray, List.getElem_cons_zero, List.getElem_cons_succ]
              refine wpAnyT_take (i := 8) (v := ?v8) rfl (by kernel_rfl) (by kernel_rfl) (fun _ _ _ h => h) (Or.inl ⟨by rfl, ?hy8⟩) hS ?rest8
              case hy8 =>
                intro wz hSw
                obtain ⟨s0, s1⟩ := hSw
                go_simp
                try rfl
              try simp only [Act.put, List.setIfInBounds_toArray, List.set_cons_zero, List.set_cons_succ, List.getElem_toArray, List.getElem_cons_zero, List.getElem_cons_succ]
              clear hS
              have hf67 : Fr [] w1 ((w1.alloc (.cells #[.int .i64 (k : Int), .int .i64 x.par] 67)).drew) := ((Fr.refl _ _).alloc _).drew
              refine wpAnyT_one (i := 9) (by kernel_rfl) rfl (by rfl) (fun K hK => ?_)
              go_simp
              refine hK _ _ (.inr ⟨hf67.cell e1 (by simp), hf67.cell d0 (by simp)⟩) ?_
              refine wpAnyT_one (i := 10) (by kernel_rfl) rfl (by rfl) (fun K2 hK2 => ?_)
              refine wp_append_row _ (.tmp 59) (.tmp 64) 60 (by rfl) w.heap.size 67 i0 (.agg #[.int .i64 0, .int .i64 0]) 2 16 Try.underlying60 HI.out.1 HI.out.2.1 HI.out.2.2.1 HI.out.2.2.2 rfl (by omega) (.slice A7 (idLinks 0 (l.take k)).length c7) (idLinks 0 (l.take k)).length (pcs (idLinks 0 (l.take k))) (by rfl) (own_fr HOWN1.out hf67 (fun _ _ => by simp)) (some ⟨w1.heap.size, 0, none⟩) 1 1 [.int .i64 (k : Int), .int .i64 x.par] (by rfl) rfl ((row_two w1 _ _ _).fr0 (Fr.refl _ _).drew) (by intro u hu; simp at hu; rcases hu with rfl | rfl <;> rfl) (by simp only [maxLen]; omega) (by omega) (Nat.le_trans hfr1.size hf67.size) ?_
              intro v7 w7 hown7 hg7 hat7
              obtain ⟨A6, c6, rfl, -, -, -⟩ := own_slice hown7
              have hf7 : Fr (Value.slice A7 (idLinks 0 (l.take k)).length c7).ownBlock.toList w1 w7 := hf67.mono (fun _ _ h => by cases h) |>.trans (Fr.of_grown hg7)
              have HN7 : Hid (∀ y t' cs', Blk w1 y t' cs' → t' ≠ 67 → y ∉ (Value.slice A7 (idLinks 0 (l.take k)).length c7).ownBlock.toList) := hide (fun y t' cs' hb hne hm => by
                obtain ⟨_, _, cs, hb2⟩ := own_block HOWN1.out (show (Value.slice A7 (idLinks 0 (l.take k)).length c7).ownBlock = some y by simpa using hm)
                exact Blk.ne_ hb2 hb (Ne.symm hne) rfl)
              have k1 := hf7.cell e1 (HN7.out _ _ _ HN1.out.blk (by decide))
              have k2 := hf7.cell d0 (HN7.out _ _ _ HB1.out (by decide))
              refine hK2 _ _ (.inr ⟨k1, k2⟩) ?_
              try simp only [Act.put, List.setIfInBounds_toArray, List.set_cons_zero, List.set_cons_succ, List.getElem_toArray, List.getElem_cons_zero, List.getElem_cons_succ]
              refine wpAnyT_one (i := 11) (by kernel_rfl) rfl (by rfl) (fun K3 hK3 => ?_)
              go_simp
              refine hK3 _ _ (.inr ⟨k1, k2⟩) ?_
              try simp only [Act.put, List.setIfInBounds_toArray, List.set_cons_zero, List.set_cons_succ, List.getElem_toArray, List.getElem_cons_zero, List.getElem_cons_succ]
              refine wpAnyT_one (i := 12) (by kernel_rfl) rfl (by rfl) (fun K4 hK4 => ?_)
              go_simp
              refine hK4 _ _ (.inr ⟨k1, k2⟩) ?_
              try simp only [Act.put, List.setIfInBounds_toArray, List.set_cons_zero, List.set_cons_succ, List.getElem_toArray, List.getElem_cons_zero, List.getElem_cons_succ]
              refine wpAnyT_one (i := 13) (by kernel_rfl) rfl (by rfl) (fun K5 hK5 => ?_)
              have f37 : w7.frozen? ⟨b, 1, none⟩ = false := by rw [hf7.frozen (p := ⟨b, 1, none⟩) (HN1.out.blk.lt) (HN7.out _ _ _ HN1.out.blk (by decide))]; exact f1
              go_simp
              refine hK5 _ _ (.inl rfl) ?_
              try simp only [Act.put, List.setIfInBounds_toArray, List.set_cons_zero, List.set_cons_succ, List.getElem_toArray, List.getElem_cons_zero, List.getElem_cons_succ]
              refine wpAnyT_done (by kernel_rfl) ?_ _
              have hN7 := HN1.out.grow HOWN1.out hf7
              have hbg : Blk w7 gd 30 #[.int .i64 x.par, .slice A' x.sup.length cp', .int .u64 (x.dl : Int)] := HB1.out.fr hf7 (HN7.out _ _ _ HB1.out (by decide))
              go_wp2
              go_meet
              refine ⟨idLinks 0 (l.take k) ++ [((k : Int), x.par)], .slice A6 ((idLinks 0 (l.take k)).length + 1) c6, by rw [if_pos h0], hN7.put _, ?_, ⟨A6, c6, by rw [List.length_append]; rfl⟩, hbg.far (fun e => Blk.ne_ hbg hN7.blk (by decide) e) _⟩
              rw [List.length_append, pcs_snoc]
              exact own_fr hown7 ((Fr.refl [b] w7).set (p := ⟨b, 1, none⟩) (.inl (by simp)) _) (fun y hy hm => by
                obtain ⟨_, _, cs, hb2⟩ := own_block hown7 hy
                exact Blk.ne_ hb2 hN7.blk (by decide) (List.mem_singleton.1 hm))
            · go_wp2
              go_meet
              exact ⟨idLinks 0 (l.take k), _, by rw [if_neg (by omega), List.append_nil], HN1.out, HOWN1.out, ⟨A7, c7, rfl⟩, HB1.out⟩
          case rest =>
            obtain ⟨L, v8, hL, hn, hown, ⟨A8, c8, rfl⟩, hbg⟩ := hcut
            have HL := hide hL
            have HNc := hide hn
            have HOWNc := hide hown
            have HBc := hide hbg
            have hLk : L.length ≤ 441 := by
              rw [hL, List.length_append]
              split <;> simp <;> omega
            clear hL hn hown hbg HB1 HN1 HOWN1 d0 d1 hfr1 w1
            go_wp2
            go_loopg [8] x.sup.length (fun m i wr => RnB w (some ⟨ob, oo, none⟩) cp l b ga gu gs k x L gd A' cp' m i wr)
            case atStart => exact ⟨0, .slice A8 L.length c8, by omega, rfl, HNc.out, by simpa using HOWNc.out, (fun s hs => by cases hs), HBc.out, rfl⟩
            case round =>
              clear HNc HOWNc HBc
              obtain ⟨j, v, hj, rfl, hn, hown, hok3, hbg, hmm3⟩ := hrel
              have HM3 := hide hmm3
              have HN3 := hide hn
              have HOK3 := hide hok3
              have HOWN3 := hide hown
              obtain ⟨A9, c9, rfl, -, -, -⟩ := own_slice hown
              have hfr3 := hn.fr
              have d1 : wr.cell? ⟨gd, 1, none⟩ = some (.slice A' x.sup.length cp') := hbg.cell 1
              have HB3 := hide hbg
              clear hmm3 hn hok3 hown hbg
              by_cases hlj : j < x.sup.length
              · obtain ⟨y, hy⟩ : ∃ y, x.sup[j]? = some y := ⟨_, List.getElem?_eq_getElem hlj⟩
                obtain ⟨ob2, oo2, rfl, q1⟩ := (HRS.out.fr0 hfr3).int hy
                have hji : (j : Int) < (x.sup.length : Int) := by omega
                have HTJ := hide (take_succ_some hy)
                have HYM := hide (List.mem_of_getElem? hy)
                have hlen3 : (L ++ (x.sup.take j).map fun s => ((k : Int), s)).length ≤ 470 := by
                  rw [List.length_append, List.length_map, List.length_take]
                  omega
                clear hy
                by_cases hin : 0 ≤ y ∧ y < (l.length : Int)
                · have n1 : ¬ y < 0 := by omega
                  have n2 : ¬ (l.length : Int) ≤ y := by omega
                  have HYI := hide hin
                  generalize hLj : L ++ (x.sup.take j).map (fun s => ((k : Int), s)) = Lj at HN3 HOWN3 hlen3 ⊢
                  have HLJ := hide hLj
                  have e1 : wr.cell? ⟨b, 1, none⟩ = some (.slice A9 Lj.length c9) := HN3.out.blk.cell 1
                  have f1 : wr.frozen? ⟨b, 1, none⟩ = false := HN3.out.blk.frozen 1
                  clear hLj hin
                  go_wp2
                  refine wp_region_T (fun w' => w'.cell? ⟨b, 1, none⟩ = some (.slice A9 Lj.length c9) ∧ w'.cell? ⟨gd, 1, none⟩ = some (.slice (some ⟨ob2, oo2, none⟩) x.sup.length cp') ∧ w'.cell? ⟨ob2, oo2 + j, none⟩ = some (.int .i64 y)) 16 (by kernel_rfl) ?_
                  have hS : (fun w' => w'.cell? ⟨b, 1, none⟩ = some (.slice A9 Lj.length c9) ∧ w'.cell? ⟨gd, 1, none⟩ = some (.slice (some ⟨ob2, oo2, none⟩) x.sup.length cp') ∧ w'.cell? ⟨ob2, oo2 + j, none⟩ = some (.int .i64 y)) { wr with drawn := wr.drawn + 1 } := ⟨e1, d1, q1⟩
                  refine wpAnyT_take (i := 0) (v := ?vz0) rfl (by kernel_rfl) (by kernel_rfl) (fun _ _ _ h => h) (Or.inl ⟨by rfl, ?hyz0⟩) hS ?restz0
                  case hyz0 =>
                    intro wz hSw
                    obtain ⟨s0, s1, s2⟩ := hSw
                    go_simp
                    try rfl
                  try simp only [Act.put, List.setIfInBounds_toArray, List.set_cons_zero, List.set_cons_succ, List.getElem_toArray, List.getElem_cons_zero]
                  refine wpAnyT_take (i := 1) (v := ?vz1) rfl (by kernel_rfl) (by kernel_rfl) (fun _ _ _ h => h) (Or.inl ⟨by rfl, ?hyz1⟩) hS ?restz1
                  case hyz1 =>
                    intro wz hSw
                    obtain ⟨s0, s1, s2⟩ := hSw
                    go_simp
                    try rfl
                  try simp only [Act.put, List.setIfInBounds_toArray, List.set_cons_zero, List.set_cons_succ, List.getElem_toArray, List.getElem_cons_zero, List.getElem_cons_succ]
                  refine wpAnyT_take (i := 2) (v := ?vz2) rfl (by kernel_rfl) (by kernel_rfl) (fun _ _ _ h => h) (Or.inl ⟨by rfl, ?hyz2⟩) hS ?restz2
                  case hyz2 =>
                    intro wz hSw
                    obtain ⟨s0, s1, s2⟩ := hSw
                    go_simp
                    try rfl
                  try simp only [Act.put, List.setIfInBounds_toArray, List.set_cons_zero, List.set_cons_succ, List.getElem_toArray, List.getElem_cons_zero, List.getElem_cons_succ]
                  refine wpAnyT_take (i := 3) (v := ?vz3) rfl (by kernel_rfl) (by kernel_rfl) (fun _ _ _ h => h) (Or.inl ⟨by rfl, ?hyz3⟩) hS ?restz3
                  case hyz3 =>
                    intro wz hSw
                    obtain ⟨s0, s1, s2⟩ := hSw
                    go_simp
                    try rfl
                  try simp only [Act.put, List.setIfInBounds_toArray, List.set_cons_zero, List.set_cons_succ, List.getElem_toArray, List.getElem_cons_zero, List.getElem_cons_succ]
                  refine wpAnyT_take (i := 4) (v := ?vz4) rfl (by kernel_rfl) (by kernel_rfl) (fun _ _ _ h => h) (Or.inl ⟨by rfl, ?hyz4⟩) hS ?restz4
                  case hyz4 =>
                    intro wz hSw
                    obtain ⟨s0, s1, s2⟩ := hSw
                    go_simp
                    try rfl
                  try simp only [Act.put, List.setIfInBounds_toArray, List.set_cons_zero, List.set_cons_succ, List.getElem_toArray, List.getElem_cons_zero, List.getElem_cons_succ]
                  refine wpAnyT_take (i := 5) (v := ?vz5) rfl (by kernel_rfl) (by kernel_rfl) (fun _ _ _ h => h) (Or.inl ⟨by rfl, ?hyz5⟩) hS ?restz5
                  case hyz5 =>
                    intro wz hSw
                    obtain ⟨s0, s1, s2⟩ := hSw
                    go_simp
                    try rfl
                  try simp only [Act.put, List.setIfInBounds_toArray, List.set_cons_zero, List.set_cons_succ, List.getElem_toArray, List.getElem_cons_zero, List.getElem_cons_succ]
                  refine wpAnyT_take (i := 6) (v := ?vz6) rfl (by kernel_rfl) (by kernel_rfl) (fun _ _ _ h => h) (Or.inl ⟨by rfl, ?hyz6⟩) hS ?restz6
                  case hyz6 =>
                    intro wz hSw
                    obtain ⟨s0, s1, s2⟩ := hSw
                    go_simp
                    try rfl
                  try simp only [Act.put, List.setIfInBounds_toArray, List.set_cons_zero, List.set_cons_succ, List.getElem_toArray, List.getElem_cons_zero, List.getElem_cons_succ]
                  refine wpAnyT_take (i := 7) (v := ?vz7) rfl (by kernel_rfl) (by kernel_rfl) (fun _ _ _ h => h) (Or.inl ⟨by rfl, ?hyz7⟩) hS ?restz7
                  case hyz7 =>
                    intro wz hSw
                    obtain ⟨s0, s1, s2⟩ := hSw
                    go_simp
                    try rfl
                  try simp only [Act.put, List.setIfInBounds_toArray, List.set_cons_zero, List.set_cons_succ, List.getElem_toArray, List.getElem_cons_zero, List.getElem_cons_succ]
                  refine wpAnyT_take (i := 8) (v := ?vz8) rfl (by kernel_rfl) (by kernel_rfl) (fun _ _ _ h => h) (Or.inl ⟨by rfl, ?hyz8⟩) hS ?restz8
                  case hyz8 =>
                    intro wz hSw
                    obtain ⟨s0, s1, s2⟩ := hSw
                    go_simp
                    try rfl
                  try simp only [Act.put, List.setIfInBounds_toArray, List.set_cons_zero, List.set_cons_succ, List.getElem_toArray, List.getElem_cons_zero, List.getElem_cons_succ]
                  refine wpAnyT_take (i := 9) (v := ?vz9) rfl (by kernel_rfl) (by kernel_rfl) (fun _ _ _ h => h) (Or.inl ⟨by rfl, ?hyz9⟩) hS ?restz9
                  case hyz9 =>
                    intro wz hSw
                    obtain ⟨s0, s1, s2⟩ := hSw
                    go_simp
                    try rfl
                  try simp only [Act.put, List.setIfInBounds_toArray, List.set_cons_zero, List.set_cons_succ, List.getElem_toArray, List.getElem_cons_zero, List.getElem_cons_succ]
                  refine wpAnyT_take (i := 10) (v := ?vz10) rfl (by kernel_rfl) (by kernel_rfl) (fun _ _ _ h => h) (Or.inl ⟨by rfl, ?hyz10⟩) hS ?restz10
                  case hyz10 =>
                    intro wz hSw
                    obtain ⟨s0, s1, s2⟩ := hSw
                    go_simp
                    try rfl
                  try simp only [Act.put, List.setIfInBounds_toArray, List.set_cons_zero, List.set_cons_succ, List.getElem_toArray, List.getElem_cons_zero, List.getElem_cons_succ]
                  refine wpAnyT_take (i := 11) (v := ?vz11) rfl (by kernel_rfl) (by kernel_rfl) (fun _ _ _ h => h) (Or.inl ⟨by rfl, ?hyz11⟩) hS ?restz11
                  case hyz11 =>
                    intro wz hSw
                    obtain ⟨s0, s1, s2⟩ := hSw
                    go_simp
                    try rfl
                  try simp only [Act.put, List.setIfInBounds_toArray, List.set_cons_zero, List.set_cons_succ, List.getElem_toArray, List.getElem_cons_zero, List.getElem_cons_succ]
                  clear hS
                  have hf67 : Fr [] wr ((wr.alloc (.cells #[.int .i64 (k : Int), .int .i64 y] 67)).drew) := ((Fr.refl _ _).alloc _).drew
                  refine wpAnyT_one (i := 12) (by kernel_rfl) rfl (by rfl) (fun K hK => ?_)
                  go_simp
                  refine hK _ _ (.inr ⟨hf67.cell e1 (by simp), hf67.cell d1 (by simp), hf67.cell q1 (by simp)⟩) ?_
                  refine wpAnyT_one (i := 13) (by kernel_rfl) rfl (by rfl) (fun K2 hK2 => ?_)
                  refine wp_append_row _ (.tmp 94) (.tmp 102) 60 (by rfl) w.heap.size 67 i0 (.agg #[.int .i64 0, .int .i64 0]) 2 16 Try.underlying60 HI.out.1 HI.out.2.1 HI.out.2.2.1 HI.out.2.2.2 rfl (by omega) (.slice A9 Lj.length c9) Lj.length (pcs Lj) (by rfl) (own_fr HOWN3.out hf67 (fun _ _ => by simp)) (some ⟨wr.heap.size, 0, none⟩) 1 1 [.int .i64 (k : Int), .int .i64 y] (by rfl) rfl ((row_two wr _ _ _).fr0 (Fr.refl _ _).drew) (by intro u hu; simp at hu; rcases hu with rfl | rfl <;> rfl) (by simp only [maxLen]; omega) (by omega) (Nat.le_trans hfr3.size hf67.size) ?_
                  intro v7 w7 hown7 hg7 hat7
                  obtain ⟨A6, c6, rfl, -, -, -⟩ := own_slice hown7
                  have hf7 : Fr (Value.slice A9 Lj.length c9).ownBlock.toList wr w7 := hf67.mono (fun _ _ h => by cases h) |>.trans (Fr.of_grown hg7)
                  have HN7 : Hid (∀ y t' cs', Blk wr y t' cs' → t' ≠ 67 → y ∉ (Value.slice A9 Lj.length c9).ownBlock.toList) := hide (fun y t' cs' hb hne hm => by
                    obtain ⟨_, _, cs, hb2⟩ := own_block HOWN3.out (show (Value.slice A9 Lj.length c9).ownBlock = some y by simpa using hm)
                    exact Blk.ne_ hb2 hb (Ne.symm hne) rfl)
                  have k1 := hf7.cell e1 (HN7.out _ _ _ HN3.out.blk (by decide))
                  have k2 := hf7.cell d1 (HN7.out _ _ _ HB3.out (by decide))
                  have k3 : w7.cell? ⟨ob2, oo2 + j, none⟩ = some (.int .i64 y) := hf7.cell q1 (fun hm => by
                    have h1 := (own_block HOWN3.out (show (Value.slice A9 Lj.length c9).ownBlock = some ob2 by simpa using hm)).1
                    have h2 := HRS.out.lt (by rw [List.length_map]; omega)
                    obtain ⟨o1, o2, e, h3⟩ := h2
                    injection e with e
                    injection e with e1 e2
                    omega)
                  refine hK2 _ _ (.inr ⟨k1, k2, k3⟩) ?_
                  try simp only [Act.put, List.setIfInBounds_toArray, List.set_cons_zero, List.set_cons_succ, List.getElem_toArray, List.getElem_cons_zero, List.getElem_cons_succ]
                  refine wpAnyT_one (i := 14) (by kernel_rfl) rfl (by rfl) (fun K3 hK3 => ?_)
                  go_simp
                  refine hK3 _ _ (.inr ⟨k1, k2, k3⟩) ?_
                  try simp only [Act.put, List.setIfInBounds_toArray, List.set_cons_zero, List.set_cons_succ, List.getElem_toArray, List.getElem_cons_zero, List.getElem_cons_succ]
                  refine wpAnyT_one (i := 15) (by kernel_rfl) rfl (by rfl) (fun K4 hK4 => ?_)
                  go_simp
                  refine hK4 _ _ (.inr ⟨k1, k2, k3⟩) ?_
                  try simp only [Act.put, List.setIfInBounds_toArray, List.set_cons_zero, List.set_cons_succ, List.getElem_toArray, List.getElem_cons_zero, List.getElem_cons_succ]
                  refine wpAnyT_one (i := 16) (by kernel_rfl) rfl (by rfl) (fun K5 hK5 => ?_)
                  have f37 : w7.frozen? ⟨b, 1, none⟩ = false := by rw [hf7.frozen (p := ⟨b, 1, none⟩) (HN3.out.blk.lt) (HN7.out _ _ _ HN3.out.blk (by decide))]; exact f1
                  go_simp
                  refine hK5 _ _ (.inl rfl) ?_
                  try simp only [Act.put, List.setIfInBounds_toArray, List.set_cons_zero, List.set_cons_succ, List.getElem_toArray, List.getElem_cons_zero, List.getElem_cons_succ]
                  refine wpAnyT_done (by kernel_rfl) ?_ _
                  have hN7 := HN3.out.grow HOWN3.out hf7
                  have hbg : Blk w7 gd 30 #[.int .i64 x.par, .slice (some ⟨ob2, oo2, none⟩) x.sup.length cp', .int .u64 (x.dl : Int)] := HB3.out.fr hf7 (HN7.out _ _ _ HB3.out (by decide))
                  go_wp2
                  go_roundg (x.sup.length - (j + 1))
                  case measure => rw [HM3.out]; omega
                  case rel =>
                    have e : L ++ (x.sup.take (j + 1)).map (fun s => ((k : Int), s)) = Lj ++ [((k : Int), y)] := by
                      rw [HTJ.out, List.map_append, ← List.append_assoc, HLJ.out]
                      rfl
                    refine ⟨j + 1, .slice A6 (Lj.length + 1) c6, by omega, by go_num, hN7.put _, ?_, fun s hs => ?_, hbg.far (fun e => Blk.ne_ hbg hN7.blk (by decide) e) _, rfl⟩
                    · rw [e, List.length_append, pcs_snoc]
                      exact own_fr hown7 ((Fr.refl [b] w7).set (p := ⟨b, 1, none⟩) (.inl (by simp)) _) (fun y hy hm => by
                        obtain ⟨_, _, cs, hb2⟩ := own_block hown7 hy
                        exact Blk.ne_ hb2 hN7.blk (by decide) (List.mem_singleton.1 hm))
                    · rw [HTJ.out] at hs
                      rcases List.mem_append.1 hs with hs | hs
                      · exact HOK3.out s hs
                      · rw [List.mem_singleton.1 hs]; exact HYI.out
                · have HE : Hid (newE l = 1) := hide (newE_sup (List.mem_of_getElem? HX.out) HYM.out hin (by omega) (fun d hd => by have := HS.out d hd; omega))
                  have hway : y < 0 ∨ (¬ y < 0 ∧ (l.length : Int) ≤ y) := by omega
                  clear hin
                  rcases hway with n1 | ⟨n1, n2⟩
                  all_goals
                    go_wp2
                    go_ret2
                    exact .inl ⟨by rw [HE.out]; decide, by rw [HE.out]; rfl, hfr3⟩
              · have hji : ¬ (j : Int) < (x.sup.length : Int) := by omega
                rw [List.take_of_length_le (by omega)] at HN3 HOWN3 HOK3
                have HT2 : Hid (idLinks 0 (l.take (k + 1)) = L ++ x.sup.map fun s => ((k : Int), s)) := hide (by
                  rw [HTK.out, HL.out]
                  unfold linkOf
                  rw [List.append_assoc])
                generalize hLj : L ++ x.sup.map (fun s => ((k : Int), s)) = Lj at HN3 HOWN3 HT2 ⊢
                clear hLj
                go_wp2
                go_roundg (l.length - (k + 1))
                case measure => rw [HM.out]; omega
                case rel =>
                  refine ⟨k + 1, .slice A9 Lj.length c9, by omega, by go_num, HN3.out, by rw [HT2.out]; exact HOWN3.out, fun d hd => ?_, rfl⟩
                  rw [take_succ_some HX.out] at hd
                  rcases List.mem_append.1 hd with hd | hd
                  · exact HOK.out d hd
                  · rw [List.mem_singleton.1 hd]; exact ⟨HV.out, HOK3.out⟩
        · have HE : Hid (newE l = 1) := hide (by
            unfold newE
            rw [if_neg (fun h => hv (h x (List.mem_of_getElem? HX.out)))])
          by_cases h1 : x.par < -1
          · clear hv
            go_wp2
            go_ret2
            exact .inl ⟨by rw [HE.out]; decide, by rw [HE.out]; rfl, hfr1⟩
          · by_cases h2 : (l.length : Int) ≤ x.par
            · clear hv
              go_wp2
              go_ret2
              exact .inl ⟨by rw [HE.out]; decide, by rw [HE.out]; rfl, hfr1⟩
            · have h3 : (1048576 : Int) < (x.dl : Int) := by
                have : ¬ x.dl ≤ 1048576 := fun h => hv ⟨by omega, by omega, h⟩
                omega
              clear hv
              go_wp2
              go_ret2
              exact .inl ⟨by rw [HE.out]; decide, by rw [HE.out]; rfl, hfr1⟩
      · have hkl : ¬ (k : Int) < (l.length : Int) := by omega
        obtain rfl : k = l.length := by omega
        rw [List.take_length] at HOWN HOK HN
        have HNE : Hid (newE l = checkM (l.length : Int) (idLinks 0 l)) := hide (by unfold newE; rw [if_pos (fun d hd => (HOK.out d hd).1)])
        rw [List.take_length] at hT7
        have e1 : wr.cell? ⟨b, 1, none⟩ = some (.slice A7 (idLinks 0 l).length c7) := by
          have := HN.out.blk.cell 1
          rw [this]
          rfl
        obtain ⟨A8, c8, e8, -, hrow, hlo7⟩ := own_slice HOWN.out
        obtain ⟨rfl, rfl⟩ : A7 = A8 ∧ c7 = c8 := by injection e8 with e1 e2 e3; exact ⟨e1, e3⟩
        have HROW := hide hrow
        have HLO := hide hlo7
        clear hrow hlo7 e8 HM hk
        go_wp2_with fail
        refine (rcheck_any24 (l.length : Int) A7 c7 (idLinks 0 l) wr HROW.out (by omega)).mono ?_
        rintro e w2 ⟨rfl, hf2⟩
        rw [← HNE.out]
        by_cases hz : newE l = 0
        · rw [hz]
          have HZ := hide hz
          have HN2 := hide (HN.out.fr0 hf2)
          have HROW2 := hide (HROW.out.fr0 hf2)
          have hfw := hfr.call hf2
          clear hz e1
          go_wp2
          go_ret2
          refine .inr ⟨HZ.out, ⟨b, ga, gu, gs, w2.heap.size, w.heap.size, A, cp, A7, c7⟩, rfl, ⟨HN2.out.blk, HR.out.1.fr0 hfw, HROW2.out, HN2.out.on, HN2.out.us, HN2.out.sn, fun i hi => ?_, fun ad e h0 => ?_, fun ad e => ?_⟩, rfl, Nat.le_refl _, hfw.size, rfl, hfw⟩
          · have hlo := HN2.out.lo
            have h1 := HN2.out.blk.lt
            have h2 := Blk.lt HN2.out.on
            have h3 := Blk.lt HN2.out.us
            have h4 := Blk.lt HN2.out.sn
            simp [RL.own] at hi
            show w.heap.size ≤ i ∧ i < w2.heap.size
            rcases hi with rfl | rfl | rfl | rfl <;> omega
          · obtain ⟨ob, oo, e2, h3⟩ := HR.out.1.lt (by rw [idcs_length]; omega)
            rw [e2] at e
            injection e with e
            rw [← e]
            exact h3
          · have e : A7 = some ad := e
            have h1 := HLO.out ad e
            refine ⟨h1.1, Nat.lt_of_lt_of_le h1.2 hf2.size, fun hm => ?_⟩
            obtain ⟨_, _, cs, hb2⟩ := own_block HOWN.out (show (Value.slice A7 (idLinks 0 l).length c7).ownBlock = some ad.block by rw [e]; rfl)
            simp [RL.own] at hm
            rcases hm with hm | hm | hm | hm
            · exact Blk.ne_ hb2 HN.out.blk (by decide) hm
            · exact Blk.ne_ hb2 HN.out.on (by decide) hm
            · exact Blk.ne_ hb2 HN.out.us (by decide) hm
            · exact Blk.ne_ hb2 HN.out.sn (by decide) hm
        · have hne : (newE l != 0) = true := by simp [hz]
          have HZ := hide hz
          have hfw := hfr.call hf2
          clear hz e1
          go_wp2
          go_ret2
          exact .inl ⟨HZ.out, rfl, hfw⟩
end Go.Proofs.Ytbnfdpemfmeldaa

