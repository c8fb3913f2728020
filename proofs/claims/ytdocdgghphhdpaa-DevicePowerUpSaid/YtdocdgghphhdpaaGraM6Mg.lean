/- The plain model of law24.Graph. -/
import Derived.Test.YtdocdgghphhdpaaGraM3Mg
import Derived.Test.YtdocdgghphhdpaaMgDevicePower5
namespace Go.Proofs.Ytdocdgghphhdpaa

def gOri (ac : Bool) (sh : Nat) (c s : Nat) : Nat × Nat := if ac = true ∧ (7 * c + sh) % 13 < (7 * s + sh) % 13 then (s, c) else (c, s)
def gStep (ac : Bool) (N sh : Nat) (out : List (Nat × Nat)) (p : Int × Int) : List (Nat × Nat) :=
  if ac = true ∧ umod p.1 N = umod p.2 N then out
  else if gOri ac sh (umod p.1 N) (umod p.2 N) ∈ out then out else out ++ [gOri ac sh (umod p.1 N) (umod p.2 N)]
def gLinks (ac : Bool) (N sh : Nat) (raw : List (Int × Int)) : List (Nat × Nat) := raw.foldl (gStep ac N sh) []
def gNodes (n : Int) : Nat := umod n 14
/-- The nodes and the links. -/
def graphM (n : Int) (raw : List (Int × Int)) (ac : Bool) : List (Nat × Nat) := if gNodes n < 2 then [] else gLinks ac (gNodes n) (umod n 13) (raw.take 40)
theorem gLinks_snoc (ac : Bool) (N sh : Nat) (raw : List (Int × Int)) (p : Int × Int) : gLinks ac N sh (raw ++ [p]) = gStep ac N sh (gLinks ac N sh raw) p := by simp [gLinks]

structure GOk (ac : Bool) (N sh : Nat) (k : Nat) (out : List (Nat × Nat)) : Prop where
  lt : ∀ p ∈ out, p.1 < N ∧ p.2 < N
  nodup : out.Nodup
  len : out.length ≤ k
  rank : ac = true → ∀ p ∈ out, (7 * p.2 + sh) % 13 < (7 * p.1 + sh) % 13
theorem gStep_ok {ac : Bool} {N sh k : Nat} {out : List (Nat × Nat)} (h0 : 0 < N) (h13 : N ≤ 13) (h : GOk ac N sh k out) (p : Int × Int) : GOk ac N sh (k + 1) (gStep ac N sh out p) := by
  have h1 := umod_lt p.1 h0
  have h2 := umod_lt p.2 h0
  unfold gStep
  generalize umod p.1 N = c at h1 ⊢
  generalize umod p.2 N = s at h2 ⊢
  have hw : GOk ac N sh (k + 1) out := ⟨h.lt, h.nodup, by have := h.len; omega, h.rank⟩
  split
  · exact hw
  · rename_i hne
    split
    · exact hw
    · rename_i hnew
      have hlt : (gOri ac sh c s).1 < N ∧ (gOri ac sh c s).2 < N := by
        unfold gOri
        split
        · exact ⟨h2, h1⟩
        · exact ⟨h1, h2⟩
      refine ⟨fun q hq => ?_, ?_, by have := h.len; simp; omega, fun ha q hq => ?_⟩
      · rcases List.mem_append.1 hq with h' | h'
        · exact h.lt q h'
        · rw [List.mem_singleton.1 h']; exact hlt
      · rw [List.nodup_append]
        exact ⟨h.nodup, by simp, fun a ha b hb => by rw [List.mem_singleton.1 hb]; rintro rfl; exact hnew ha⟩
      · rcases List.mem_append.1 hq with h' | h'
        · exact h.rank ha q h'
        · rw [List.mem_singleton.1 h']
          have hcs : c ≠ s := fun e => hne ⟨ha, e⟩
          unfold gOri
          split
          · rename_i hx
            exact hx.2
          · rename_i hx
            have hx2 : ¬ (7 * c + sh) % 13 < (7 * s + sh) % 13 := fun h => hx ⟨ha, h⟩
            simp only
            omega
theorem gLinks_ok (ac : Bool) {N sh : Nat} (h0 : 0 < N) (h13 : N ≤ 13) (raw : List (Int × Int)) : GOk ac N sh raw.length (gLinks ac N sh raw) := by
  unfold gLinks
  have : ∀ (raw : List (Int × Int)) (k : Nat) (out : List (Nat × Nat)), GOk ac N sh k out → GOk ac N sh (k + raw.length) (raw.foldl (gStep ac N sh) out) := by
    intro raw
    induction raw with
    | nil => intro k out h; simpa using h
    | cons p raw ih =>
      intro k out h
      have := ih (k + 1) _ (gStep_ok h0 h13 h p)
      simp only [List.foldl_cons, List.length_cons]
      rwa [show k + (raw.length + 1) = k + 1 + raw.length by omega]
  have h := this raw 0 [] ⟨by simp, by simp, by simp, by simp⟩
  simpa using h
theorem gNodes_lt (n : Int) : gNodes n < 14 := umod_lt n (by omega)
theorem graphM_ok (n : Int) (raw : List (Int × Int)) (ac : Bool) : GOk ac (gNodes n) (umod n 13) 40 (graphM n raw ac) := by
  unfold graphM
  split
  · exact ⟨by simp, by simp, by simp, by simp⟩
  · rename_i h
    have h1 := gNodes_lt n
    have := gLinks_ok ac (N := gNodes n) (sh := umod n 13) (by omega) (by omega) (raw.take 40)
    refine ⟨this.lt, this.nodup, ?_, this.rank⟩
    have h2 := this.len
    rw [List.length_take] at h2
    omega
/-- Links of naturals as they lie in memory. -/
def ofN (p : Nat × Nat) : Int × Int := (p.1, p.2)
def ofNs (L : List (Nat × Nat)) : List (Int × Int) := L.map ofN
theorem toNs_ofNs (L : List (Nat × Nat)) : toNs (ofNs L) = L := by
  unfold toNs ofNs
  rw [List.map_map]
  have : toN ∘ ofN = id := by funext p; simp [toN, ofN]
  rw [this, List.map_id]
theorem ofNs_length (L : List (Nat × Nat)) : (ofNs L).length = L.length := by simp [ofNs]
theorem ofN_inj {p q : Nat × Nat} (h : ofN p = ofN q) : p = q := by
  unfold ofN at h
  injection h with h1 h2
  exact Prod.ext (by omega) (by omega)
theorem ofNs_mem {L : List (Nat × Nat)} {p : Nat × Nat} : ofN p ∈ ofNs L ↔ p ∈ L := by
  unfold ofNs
  rw [List.mem_map]
  constructor
  · rintro ⟨q, hq, e⟩
    rw [← ofN_inj e]; exact hq
  · exact fun h => ⟨p, h, rfl⟩
theorem ofNs_nodup {L : List (Nat × Nat)} (h : L.Nodup) : (ofNs L).Nodup := by
  unfold ofNs
  unfold List.Nodup at h ⊢
  rw [List.pairwise_map]
  exact h.imp (fun hne e => hne (ofN_inj e))
theorem GOk.links {ac : Bool} {N sh : Nat} {out : List (Nat × Nat)} (h : GOk ac N sh 40 out) (hN : N ≤ 128) : LinksOk (N : Int) (ofNs out) ∧ (ofNs out).Nodup ∧ basicM (N : Int) (ofNs out) = 0 := by
  have h1 : LinksOk (N : Int) (ofNs out) := by
    refine ⟨by omega, by omega, by rw [ofNs_length]; have := h.len; omega, fun p hp => ?_⟩
    obtain ⟨q, hq, rfl⟩ := List.mem_map.1 hp
    have := h.lt q hq
    unfold LinkOk ofN
    simp only
    omega
  exact ⟨h1, ofNs_nodup h.nodup, basicM_ok h1 (ofNs_nodup h.nodup)⟩
theorem GOk.acyc {N sh k : Nat} {out : List (Nat × Nat)} (h : GOk true N sh k out) : Acyc out := by
  have hr : ∀ a b, Req out a b → (7 * b + sh) % 13 < (7 * a + sh) % 13 := fun a b hab => by
    induction hab with
    | one hp => exact h.rank rfl _ hp
    | step hp _ ih => exact Nat.lt_trans ih (h.rank rfl _ hp)
  intro a ha
  have := hr a a ha
  omega
end Go.Proofs.Ytdocdgghphhdpaa

