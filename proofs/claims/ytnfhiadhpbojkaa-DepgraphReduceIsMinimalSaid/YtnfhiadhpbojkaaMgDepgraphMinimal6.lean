/- help.Mod, walked. -/
import Derived.Test.YtnfhiadhpbojkaaBase
import Derived.Test.YtnfhiadhpbojkaaProg
import Derived.Test.YtnfhiadhpbojkaaGraM3Mg
import Derived.Test.YtnfhiadhpbojkaaMgDepgraphMinimal0
import Derived.Deep.QuietTactic
import Derived.BigQuiet
import Derived.Lib.Hide
import Derived.Deep.LoopGhost
namespace Go.Proofs.Ytnfhiadhpbojkaa
open Go.RowKit

def umod (v : Int) (n : Nat) : Nat := ((IntKind.u64.wrap v).toNat) % n
theorem umod_lt (v : Int) {n : Nat} (h : 0 < n) : umod v n < n := Nat.mod_lt _ h
theorem wrap_u64 (v : Int) : IntKind.u64.wrap v = v % 18446744073709551616 := by simp [IntKind.wrap, IntKind.signed, IntKind.bits]

set_option maxHeartbeats 400000 in
theorem mod_any (v : Int) (n : Nat) (w : World) (h0 : 0 < n) (h1 : n ≤ 4096) :
    Calls Try.prog 27 #[.int .i64 v, .int .i64 n] w fun e w' => e = .returned (.int .i64 (umod v n)) ∧ w = w' := by
  have hb : (1 : Int) ≤ (n : Int) := by omega
  have hb2 : (n : Int) ≤ 4096 := by omega
  clear h0 h1
  go_enter Try.func27, Try.ntmps27
  go_wp2
  go_ret
  refine ⟨ret_int ?_, rfl⟩
  have hw : 0 ≤ IntKind.u64.wrap v := by rw [wrap_u64]; omega
  have e : (IntKind.u64.wrap v).tmod (n : Int) = ((umod v n : Nat) : Int) := by
    obtain ⟨m, hm⟩ := Int.eq_ofNat_of_zero_le hw
    unfold umod
    rw [hm, Int.toNat_natCast]
    exact (Int.ofNat_tmod m n).symm
  rw [e]
  have := umod_lt v (n := n) (by omega)
  exact IntWalk.wrap64_in _ ⟨by omega, by omega⟩
end Go.Proofs.Ytnfhiadhpbojkaa

/- The plain model of law24.Graph. -/
namespace Go.Proofs.Ytnfhiadhpbojkaa

def gOri (ac : Bool) (sh : Nat) (c s : Nat) : Nat × Nat := if ac = true ∧ (7 * c + sh) % 13 < (7 * s + sh) % 13 then (s, c) else (c, s)
def gStep (ac : Bool) (N sh : Nat) (out : List (Nat × Nat)) (p : Int × Int) : List (Nat × Nat) :=
  if ac = true ∧ umod p.1 N = umod p.2 N then out
  else if gOri ac sh (umod p.1 N) (umod p.2 N) ∈ out then out else out ++ [gOri ac sh (umod p.1 N) (umod p.2 N)]
def gLinks (ac : Bool) (N sh : Nat) (raw : List (Int × Int)) : List (Nat × Nat) := raw.foldl (gStep ac N sh) []
def gNodes (n : Int) : Nat := umod n 14
/-- The nodes and the links. -/
def graphM (n : Int) (raw : List (Int × Int)) (ac : Bool) : List (Nat × Nat) := if gNodes n < 2 then [] else gLinks ac (gNodes n) (umod n 13) (raw.take 40)
theorem gLinks_snoc (ac : Bool) (N sh : Nat) (raw : List (Int × Int)) (p : Int × Int) : gLinks ac N sh (raw ++ [p]) = gStep ac N sh (gLinks ac N sh raw) p := by simp [gLinks]

structure GOk (ac : Bool) (N sh : Nat) (k : Nat) (out : List (Nat × Nat)) : Prop where
  lt : ∀ p ∈ out, p.1 < N ∧ p.2 < N
  nodup : out.Nodup
  len : out.length ≤ k
  rank : ac = true → ∀ p ∈ out, (7 * p.2 + sh) % 13 < (7 * p.1 + sh) % 13
theorem gStep_ok {ac : Bool} {N sh k : Nat} {out : List (Nat × Nat)} (h0 : 0 < N) (h13 : N ≤ 13) (h : GOk ac N sh k out) (p : Int × Int) : GOk ac N sh (k + 1) (gStep ac N sh out p) := by
  have h1 := umod_lt p.1 h0
  have h2 := umod_lt p.2 h0
  unfold gStep
  generalize umod p.1 N = c at h1 ⊢
  generalize umod p.2 N = s at h2 ⊢
  have hw : GOk ac N sh (k + 1) out := ⟨h.lt, h.nodup, by have := h.len; omega, h.rank⟩
  split
  · exact hw
  · rename_i hne
    split
    · exact hw
    · rename_i hnew
      have hlt : (gOri ac sh c s).1 < N ∧ (gOri ac sh c s).2 < N := by
        unfold gOri
        split
        · exact ⟨h2, h1⟩
        · exact ⟨h1, h2⟩
      refine ⟨fun q hq => ?_, ?_, by have := h.len; simp; omega, fun ha q hq => ?_⟩
      · rcases List.mem_append.1 hq with h' | h'
        · exact h.lt q h'
        · rw [List.mem_singleton.1 h']; exact hlt
      · rw [List.nodup_append]
        exact ⟨h.nodup, by simp, fun a ha b hb => by rw [List.mem_singleton.1 hb]; rintro rfl; exact hnew ha⟩
      · rcases List.mem_append.1 hq with h' | h'
        · exact h.rank ha q h'
        · rw [List.mem_singleton.1 h']
          have hcs : c ≠ s := fun e => hne ⟨ha, e⟩
          unfold gOri
          split
          · rename_i hx
            exact hx.2
          · rename_i hx
            have hx2 : ¬ (7 * c + sh) % 13 < (7 * s + sh) % 13 := fun h => hx ⟨ha, h⟩
            simp only
            omega
theorem gLinks_ok (ac : Bool) {N sh : Nat} (h0 : 0 < N) (h13 : N ≤ 13) (raw : List (Int × Int)) : GOk ac N sh raw.length (gLinks ac N sh raw) := by
  unfold gLinks
  have : ∀ (raw : List (Int × Int)) (k : Nat) (out : List (Nat × Nat)), GOk ac N sh k out → GOk ac N sh (k + raw.length) (raw.foldl (gStep ac N sh) out) := by
    intro raw
    induction raw with
    | nil => intro k out h; simpa using h
    | cons p raw ih =>
      intro k out h
      have := ih (k + 1) _ (gStep_ok h0 h13 h p)
      simp only [List.foldl_cons, List.length_cons]
      rwa [show k + (raw.length + 1) = k + 1 + raw.length by omega]
  have h := this raw 0 [] ⟨by simp, by simp, by simp, by simp⟩
  simpa using h
theorem gNodes_lt (n : Int) : gNodes n < 14 := umod_lt n (by omega)
theorem graphM_ok (n : Int) (raw : List (Int × Int)) (ac : Bool) : GOk ac (gNodes n) (umod n 13) 40 (graphM n raw ac) := by
  unfold graphM
  split
  · exact ⟨by simp, by simp, by simp, by simp⟩
  · rename_i h
    have h1 := gNodes_lt n
    have := gLinks_ok ac (N := gNodes n) (sh := umod n 13) (by omega) (by omega) (raw.take 40)
    refine ⟨this.lt, this.nodup, ?_, this.rank⟩
    have h2 := this.len
    rw [List.length_take] at h2
    omega
/-- Links of naturals as they lie in memory. -/
def ofN (p : Nat × Nat) : Int × Int := (p.1, p.2)
def ofNs (L : List (Nat × Nat)) : List (Int × Int) := L.map ofN
theorem toNs_ofNs (L : List (Nat × Nat)) : toNs (ofNs L) = L := by
  unfold toNs ofNs
  rw [List.map_map]
  have : toN ∘ ofN = id := by funext p; simp [toN, ofN]
  rw [this, List.map_id]
theorem ofNs_length (L : List (Nat × Nat)) : (ofNs L).length = L.length := by simp [ofNs]
theorem ofN_inj {p q : Nat × Nat} (h : ofN p = ofN q) : p = q := by
  unfold ofN at h
  injection h with h1 h2
  exact Prod.ext (by omega) (by omega)
theorem ofNs_mem {L : List (Nat × Nat)} {p : Nat × Nat} : ofN p ∈ ofNs L ↔ p ∈ L := by
  unfold ofNs
  rw [List.mem_map]
  constructor
  · rintro ⟨q, hq, e⟩
    rw [← ofN_inj e]; exact hq
  · exact fun h => ⟨p, h, rfl⟩
theorem ofNs_nodup {L : List (Nat × Nat)} (h : L.Nodup) : (ofNs L).Nodup := by
  unfold ofNs
  unfold List.Nodup at h ⊢
  rw [List.pairwise_map]
  exact h.imp (fun hne e => hne (ofN_inj e))
theorem GOk.links {ac : Bool} {N sh : Nat} {out : List (Nat × Nat)} (h : GOk ac N sh 40 out) (hN : N ≤ 128) : LinksOk (N : Int) (ofNs out) ∧ (ofNs out).Nodup ∧ basicM (N : Int) (ofNs out) = 0 := by
  have h1 : LinksOk (N : Int) (ofNs out) := by
    refine ⟨by omega, by omega, by rw [ofNs_length]; have := h.len; omega, fun p hp => ?_⟩
    obtain ⟨q, hq, rfl⟩ := List.mem_map.1 hp
    have := h.lt q hq
    unfold LinkOk ofN
    simp only
    omega
  exact ⟨h1, ofNs_nodup h.nodup, basicM_ok h1 (ofNs_nodup h.nodup)⟩
theorem GOk.acyc {N sh k : Nat} {out : List (Nat × Nat)} (h : GOk true N sh k out) : Acyc out := by
  have hr : ∀ a b, Req out a b → (7 * b + sh) % 13 < (7 * a + sh) % 13 := fun a b hab => by
    induction hab with
    | one hp => exact h.rank rfl _ hp
    | step hp _ ih => exact Nat.lt_trans ih (h.rank rfl _ hp)
  intro a ha
  have := hr a a ha
  omega
end Go.Proofs.Ytnfhiadhpbojkaa

/- Walks: Equal over links. -/
namespace Go.Proofs.Ytnfhiadhpbojkaa
open Go.RowKit

def EqRelL (w : World) (la lb : List (Int × Int)) (m : Nat) (i : Value) (wr : World) : Prop := ∃ k : Nat, k ≤ la.length ∧ i = .int .i64 (k : Int) ∧ la.take k = lb.take k ∧ Fr [] w wr ∧ m = la.length - k
set_option maxHeartbeats 2000000 in
theorem equalLinks_any (A B : Option Addr) (cp cq : Nat) (la lb : List (Int × Int)) (w : World) (ha : Row w A (pcs la)) (hb : Row w B (pcs lb)) (hn : la.length ≤ 100000) :
    Calls Try.prog 35 #[.slice A la.length cp, .slice B lb.length cq] w fun e w' => e = .returned (.bool (decide (la = lb))) ∧ Fr [] w w' := by
  have HA := hide ha
  have HB := hide hb
  clear ha hb
  by_cases hl : la.length = lb.length
  · have hne : ((la.length : Int) != (lb.length : Int)) = false := by simp [hl]
    have HL := hide hl
    clear hl
    go_enter Try.func35, Try.ntmps35
    go_wp2
    go_loopg [5] la.length (fun n i wr => EqRelL w la lb n i wr)
    case atStart => exact ⟨0, Nat.zero_le _, rfl, rfl, Fr.refl _ _, rfl⟩
    case round =>
      obtain ⟨k, hk, rfl, heq, hfr, hmm⟩ := hrel
      have HEQ := hide heq
      have HM := hide hmm
      clear heq hmm
      by_cases hlt : k < la.length
      · have hlt2 : k < lb.length := by rw [← HL.out]; exact hlt
        obtain ⟨pa, hpa⟩ : ∃ pa, la[k]? = some pa := ⟨_, List.getElem?_eq_getElem hlt⟩
        obtain ⟨pb, hpb⟩ : ∃ pb, lb[k]? = some pb := ⟨_, List.getElem?_eq_getElem hlt2⟩
        obtain ⟨ob, oo, rfl, c0, c1⟩ := (HA.out.fr0 hfr).link hpa
        obtain ⟨ob', oo', rfl, d0, d1⟩ := (HB.out.fr0 hfr).link hpb
        have HPA := hide hpa
        have HPB := hide hpb
        have hk1 : (k : Int) < (la.length : Int) := by omega
        have hk2 : (k : Int) < (lb.length : Int) := by omega
        have hdis : pa ≠ pb → la ≠ lb := fun hne e => hne (by
          rw [e, hpb] at hpa
          injection hpa with h
          exact h.symm)
        clear hpa hpb
        have HDIS := hide hdis
        clear hdis
        obtain ⟨a0, a1⟩ := pa
        obtain ⟨b0, b1⟩ := pb
        simp only at c0 c1 d0 d1
        by_cases e0 : a0 = b0
        · subst e0
          by_cases e1 : a1 = b1
          · subst e1
            go_wp2
            go_quiet (fail)
            go_wp2
            go_roundg (la.length - (k + 1))
            case measure => rw [HM.out]; omega
            case rel =>
              refine ⟨k + 1, by omega, by go_num, ?_, hfr.drewN _, rfl⟩
              rw [List.take_add_one, List.take_add_one, HPA.out, HPB.out, HEQ.out]
          · have HNE := hide (HDIS.out (by simp [e1]))
            go_wp2
            go_quiet (fail)
            go_wp2
            go_ret
            exact ⟨ret_bool (decide_eq_false HNE.out).symm, hfr.drewN _⟩
        · have HNE := hide (HDIS.out (by simp [e0]))
          go_wp2
          go_quiet (fail)
          go_wp2
          go_ret
          exact ⟨ret_bool (decide_eq_false HNE.out).symm, hfr.drewN _⟩
      · have hk1 : ¬ (k : Int) < (la.length : Int) := by omega
        go_wp2
        go_ret
        refine ⟨ret_bool ?_, hfr⟩
        rw [eq_comm, decide_eq_true_eq]
        have := HEQ.out
        rwa [List.take_of_length_le (by omega), List.take_of_length_le (by rw [← HL.out]; omega)] at this
  · have hne : ((la.length : Int) != (lb.length : Int)) = true := by simp; omega
    have hd : decide (la = lb) = false := decide_eq_false (fun e => hl (by rw [e]))
    have HD := hide hd
    clear hl hd
    go_enter Try.func35, Try.ntmps35
    go_wp2
    go_ret
    exact ⟨ret_bool HD.out.symm, Fr.refl _ _⟩
end Go.Proofs.Ytnfhiadhpbojkaa

