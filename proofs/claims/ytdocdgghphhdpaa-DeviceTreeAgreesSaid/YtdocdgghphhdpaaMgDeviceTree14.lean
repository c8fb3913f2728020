/- The plain model of law24.Graph. -/
import Derived.Test.YtdocdgghphhdpaaMgDeviceTree13
import Derived.Test.YtdocdgghphhdpaaMgDeviceTree6
import Derived.Test.YtdocdgghphhdpaaRlW4Mg
import Derived.Test.YtdocdgghphhdpaaMgDeviceTree2
import Derived.Laws.CopyRow
namespace Go.Proofs.Ytdocdgghphhdpaa

def gOri (ac : Bool) (sh : Nat) (c s : Nat) : Nat × Nat := if ac = true ∧ (7 * c + sh) % 13 < (7 * s + sh) % 13 then (s, c) else (c, s)
def gStep (ac : Bool) (N sh : Nat) (out : List (Nat × Nat)) (p : Int × Int) : List (Nat × Nat) :=
  if ac = true ∧ umod p.1 N = umod p.2 N then out
  else if gOri ac sh (umod p.1 N) (umod p.2 N) ∈ out then out else out ++ [gOri ac sh (umod p.1 N) (umod p.2 N)]
def gLinks (ac : Bool) (N sh : Nat) (raw : List (Int × Int)) : List (Nat × Nat) := raw.foldl (gStep ac N sh) []
def gNodes (n : Int) : Nat := umod n 14
/-- The nodes and the links. -/
def graphM (n : Int) (raw : List (Int × Int)) (ac : Bool) : List (Nat × Nat) := if gNodes n < 2 then [] else gLinks ac (gNodes n) (umod n 13) (raw.take 40)
theorem gLinks_snoc (ac : Bool) (N sh : Nat) (raw : List (Int × Int)) (p : Int × Int) : gLinks ac N sh (raw ++ [p]) = gStep ac N sh (gLinks ac N sh raw) p := by simp [gLinks]

structure GOk (ac : Bool) (N sh : Nat) (k : Nat) (out : List (Nat × Nat)) : Prop where
  lt : ∀ p ∈ out, p.1 < N ∧ p.2 < N
  nodup : out.Nodup
  len : out.length ≤ k
  rank : ac = true → ∀ p ∈ out, (7 * p.2 + sh) % 13 < (7 * p.1 + sh) % 13
theorem gStep_ok {ac : Bool} {N sh k : Nat} {out : List (Nat × Nat)} (h0 : 0 < N) (h13 : N ≤ 13) (h : GOk ac N sh k out) (p : Int × Int) : GOk ac N sh (k + 1) (gStep ac N sh out p) := by
  have h1 := umod_lt p.1 h0
  have h2 := umod_lt p.2 h0
  unfold gStep
  generalize umod p.1 N = c at h1 ⊢
  generalize umod p.2 N = s at h2 ⊢
  have hw : GOk ac N sh (k + 1) out := ⟨h.lt, h.nodup, by have := h.len; omega, h.rank⟩
  split
  · exact hw
  · rename_i hne
    split
    · exact hw
    · rename_i hnew
      have hlt : (gOri ac sh c s).1 < N ∧ (gOri ac sh c s).2 < N := by
        unfold gOri
        split
        · exact ⟨h2, h1⟩
        · exact ⟨h1, h2⟩
      refine ⟨fun q hq => ?_, ?_, by have := h.len; simp; omega, fun ha q hq => ?_⟩
      · rcases List.mem_append.1 hq with h' | h'
        · exact h.lt q h'
        · rw [List.mem_singleton.1 h']; exact hlt
      · rw [List.nodup_append]
        exact ⟨h.nodup, by simp, fun a ha b hb => by rw [List.mem_singleton.1 hb]; rintro rfl; exact hnew ha⟩
      · rcases List.mem_append.1 hq with h' | h'
        · exact h.rank ha q h'
        · rw [List.mem_singleton.1 h']
          have hcs : c ≠ s := fun e => hne ⟨ha, e⟩
          unfold gOri
          split
          · rename_i hx
            exact hx.2
          · rename_i hx
            have hx2 : ¬ (7 * c + sh) % 13 < (7 * s + sh) % 13 := fun h => hx ⟨ha, h⟩
            simp only
            omega
theorem gLinks_ok (ac : Bool) {N sh : Nat} (h0 : 0 < N) (h13 : N ≤ 13) (raw : List (Int × Int)) : GOk ac N sh raw.length (gLinks ac N sh raw) := by
  unfold gLinks
  have : ∀ (raw : List (Int × Int)) (k : Nat) (out : List (Nat × Nat)), GOk ac N sh k out → GOk ac N sh (k + raw.length) (raw.foldl (gStep ac N sh) out) := by
    intro raw
    induction raw with
    | nil => intro k out h; simpa using h
    | cons p raw ih =>
      intro k out h
      have := ih (k + 1) _ (gStep_ok h0 h13 h p)
      simp only [List.foldl_cons, List.length_cons]
      rwa [show k + (raw.length + 1) = k + 1 + raw.length by omega]
  have h := this raw 0 [] ⟨by simp, by simp, by simp, by simp⟩
  simpa using h
theorem gNodes_lt (n : Int) : gNodes n < 14 := umod_lt n (by omega)
theorem graphM_ok (n : Int) (raw : List (Int × Int)) (ac : Bool) : GOk ac (gNodes n) (umod n 13) 40 (graphM n raw ac) := by
  unfold graphM
  split
  · exact ⟨by simp, by simp, by simp, by simp⟩
  · rename_i h
    have h1 := gNodes_lt n
    have := gLinks_ok ac (N := gNodes n) (sh := umod n 13) (by omega) (by omega) (raw.take 40)
    refine ⟨this.lt, this.nodup, ?_, this.rank⟩
    have h2 := this.len
    rw [List.length_take] at h2
    omega
/-- Links of naturals as they lie in memory. -/
def ofN (p : Nat × Nat) : Int × Int := (p.1, p.2)
def ofNs (L : List (Nat × Nat)) : List (Int × Int) := L.map ofN
theorem toNs_ofNs (L : List (Nat × Nat)) : toNs (ofNs L) = L := by
  unfold toNs ofNs
  rw [List.map_map]
  have : toN ∘ ofN = id := by funext p; simp [toN, ofN]
  rw [this, List.map_id]
theorem ofNs_length (L : List (Nat × Nat)) : (ofNs L).length = L.length := by simp [ofNs]
theorem ofN_inj {p q : Nat × Nat} (h : ofN p = ofN q) : p = q := by
  unfold ofN at h
  injection h with h1 h2
  exact Prod.ext (by omega) (by omega)
theorem ofNs_mem {L : List (Nat × Nat)} {p : Nat × Nat} : ofN p ∈ ofNs L ↔ p ∈ L := by
  unfold ofNs
  rw [List.mem_map]
  constructor
  · rintro ⟨q, hq, e⟩
    rw [← ofN_inj e]; exact hq
  · exact fun h => ⟨p, h, rfl⟩
theorem ofNs_nodup {L : List (Nat × Nat)} (h : L.Nodup) : (ofNs L).Nodup := by
  unfold ofNs
  unfold List.Nodup at h ⊢
  rw [List.pairwise_map]
  exact h.imp (fun hne e => hne (ofN_inj e))
theorem GOk.links {ac : Bool} {N sh : Nat} {out : List (Nat × Nat)} (h : GOk ac N sh 40 out) (hN : N ≤ 128) : LinksOk (N : Int) (ofNs out) ∧ (ofNs out).Nodup ∧ basicM (N : Int) (ofNs out) = 0 := by
  have h1 : LinksOk (N : Int) (ofNs out) := by
    refine ⟨by omega, by omega, by rw [ofNs_length]; have := h.len; omega, fun p hp => ?_⟩
    obtain ⟨q, hq, rfl⟩ := List.mem_map.1 hp
    have := h.lt q hq
    unfold LinkOk ofN
    simp only
    omega
  exact ⟨h1, ofNs_nodup h.nodup, basicM_ok h1 (ofNs_nodup h.nodup)⟩
theorem GOk.acyc {N sh k : Nat} {out : List (Nat × Nat)} (h : GOk true N sh k out) : Acyc out := by
  have hr : ∀ a b, Req out a b → (7 * b + sh) % 13 < (7 * a + sh) % 13 := fun a b hab => by
    induction hab with
    | one hp => exact h.rank rfl _ hp
    | step hp _ ih => exact Nat.lt_trans ih (h.rank rfl _ hp)
  intro a ha
  have := hr a a ha
  omega
end Go.Proofs.Ytdocdgghphhdpaa

/- Plain: rails with a rank have chains of supplies, and New accepts them. -/
namespace Go.Proofs.Ytdocdgghphhdpaa
open Go.RowKit

def RankR (n : Nat) (R : Nat → RailD) (rk : Nat → Nat) : Prop := ∀ k, k < n → (R k).sup < 0 ∨ ∃ q : Nat, (R k).sup = (q : Int) ∧ q < n ∧ rk q < rk k
theorem chn_of_rank {n : Nat} {R : Nat → RailD} {rk : Nat → Nat} (h : RankR n R rk) : ∀ m k, rk k ≤ m → k < n → ∃ L, Chn n R k L ∧ (∀ x ∈ L, rk x < rk k) ∧ L.length ≤ rk k := by
  intro m
  induction m with
  | zero =>
    intro k hm hk
    rcases h k hk with hs | ⟨q, _, _, hlt⟩
    · exact ⟨[], .root hk hs, by simp, by simp⟩
    · omega
  | succ m ih =>
    intro k hm hk
    rcases h k hk with hs | ⟨q, hs, hq, hlt⟩
    · exact ⟨[], .root hk hs, by simp, by simp⟩
    · obtain ⟨L, h1, h2, h3⟩ := ih q (by omega) hq
      have hall : ∀ x ∈ q :: L, rk x < rk k := fun x hx => by
        rcases List.mem_cons.1 hx with rfl | hx
        · exact hlt
        · exact Nat.lt_trans (h2 x hx) hlt
      exact ⟨q :: L, .next hk hs h1 (fun hm => by have := hall k hm; omega), hall, by simp; omega⟩
def rlN (R : Nat → RailD) : Nat → List (Nat × Nat)
  | 0 => []
  | i + 1 => if 0 ≤ (R i).sup then rlN R i ++ [(i, (R i).sup.toNat)] else rlN R i
theorem rlN_of (R : Nat → RailD) : ∀ i, rlLinks R i = ofNs (rlN R i)
  | 0 => rfl
  | i + 1 => by
    rw [rlLinks, rlN]
    split
    · rename_i h
      rw [rlN_of R i]
      unfold ofNs
      rw [List.map_append]
      simp [ofN]
      omega
    · exact rlN_of R i
theorem rlN_mem {R : Nat → RailD} {p : Nat × Nat} : ∀ {i}, p ∈ rlN R i → p.1 < i ∧ (R p.1).sup = (p.2 : Int)
  | 0, h => by cases h
  | i + 1, h => by
    rw [rlN] at h
    split at h
    · rename_i h0
      rcases List.mem_append.1 h with h1 | h1
      · obtain ⟨a, b⟩ := rlN_mem h1
        exact ⟨by omega, b⟩
      · rw [List.mem_singleton.1 h1]
        exact ⟨by simp, by simp; omega⟩
    · obtain ⟨a, b⟩ := rlN_mem h
      exact ⟨by omega, b⟩
theorem rlN_nodup (R : Nat → RailD) : ∀ i, (rlN R i).Nodup
  | 0 => List.nodup_nil
  | i + 1 => by
    rw [rlN]
    split
    · rw [List.nodup_append]
      refine ⟨rlN_nodup R i, by simp, fun a ha b hb e => ?_⟩
      rw [List.mem_singleton.1 hb] at e
      have := (rlN_mem ha).1
      rw [e] at this
      simp at this
    · exact rlN_nodup R i
theorem rank_check {n : Nat} {R : Nat → RailD} {rk : Nat → Nat} (h : RankR n R rk) (hn : n ≤ 128) : checkM (n : Int) (rlLinks R n) = 0 := by
  have hmem : ∀ p ∈ rlN R n, p.1 < n ∧ p.2 < n ∧ rk p.2 < rk p.1 := fun p hp => by
    obtain ⟨a, b⟩ := rlN_mem hp
    rcases h p.1 a with hs | ⟨q, hs, hq, hlt⟩
    · omega
    · rw [b] at hs
      have : p.2 = q := by omega
      rw [this]
      exact ⟨a, hq, hlt⟩
  have hlt : ∀ p ∈ rlN R n, p.1 < n ∧ p.2 < n := fun p hp => ⟨(hmem p hp).1, (hmem p hp).2.1⟩
  have hac : Acyc (rlN R n) := by
    have hr : ∀ a b, Req (rlN R n) a b → rk b < rk a := fun a b hab => by
      induction hab with
      | one hp => exact (hmem _ hp).2.2
      | step hp _ ih => exact Nat.lt_trans ih (hmem _ hp).2.2
    intro a ha
    have := hr a a ha
    omega
  have hf : (greedy n (rlN R n)).length = n := (greedy_full hlt).2 hac
  have hl := rlLinks_len R n
  have hb : basicM (n : Int) (rlLinks R n) = 0 := by
    rw [rlN_of]
    refine basicM_ok ⟨by omega, by omega, by rw [← rlN_of]; omega, fun p hp => ?_⟩ ?_
    · obtain ⟨q, hq, rfl⟩ := List.mem_map.1 hp
      have := hlt q hq
      unfold LinkOk ofN
      simp only
      omega
    · unfold ofNs List.Nodup
      rw [List.pairwise_map]
      exact List.Pairwise.imp (fun hne e => hne (ofN_inj e)) (rlN_nodup R n)
  unfold checkM
  rw [rlN_of] at hb ⊢
  rw [orderM_ok hb (by rw [toNs_ofNs]; exact hf)]
theorem rank_new {n : Nat} {R : Nat → RailD} {rk : Nat → Nat} (h : RankR n R rk) (hn : n ≤ 64) (hok : ∀ i, i < n → railOkD n (R i)) : rnewM R n = 0 := by
  rw [rnewM, if_neg (by omega), if_pos (railsOkB_yes hok)]
  exact rank_check h (by omega)
end Go.Proofs.Ytdocdgghphhdpaa

/- A struct stored into a row that is known whole. -/
namespace Go.Proofs.Ytdocdgghphhdpaa
open Go.RowKit
section
variable {P : Program} (w : World)
/-- The row with some cells written over. -/
def over (cur : Array Value) (off : Nat) (cs : Array Value) : Array Value := (cur.toList.take off ++ cs.toList ++ cur.toList.drop (off + cs.size)).toArray
theorem over_in {cur cs : Array Value} {off t : Nat} (hfit : off + cs.size ≤ cur.size) (h1 : off ≤ t) (h2 : t < off + cs.size) : (over cur off cs)[t]? = cs[t - off]? := by
  have hl : (cur.toList.take off).length = off := by simp; omega
  simp only [over, List.getElem?_toArray]
  rw [List.append_assoc, List.getElem?_append_right (by omega), hl, List.getElem?_append_left (by simp; omega)]
  simp
theorem over_out {cur cs : Array Value} {off t : Nat} (hfit : off + cs.size ≤ cur.size) (h : t < off ∨ off + cs.size ≤ t) : (over cur off cs)[t]? = cur[t]? := by
  have hl : (cur.toList.take off).length = off := by simp; omega
  simp only [over, List.getElem?_toArray]
  rcases h with h | h
  · rw [List.append_assoc, List.getElem?_append_left (by omega), List.getElem?_take_of_lt h]
    simp
  · have hl2 : (cur.toList.take off ++ cs.toList).length = off + cs.size := by simp; omega
    rw [List.getElem?_append_right (by omega), hl2, List.getElem?_drop, show off + cs.size + (t - (off + cs.size)) = t by omega]
    simp
theorem fr_setRow (w : World) (g : Nat) (cs : Array Value) : Fr [g] w (w.setRow g cs) := ⟨rfl, rfl, rfl, by simp, fun k _ hk => setRow_other w g k cs (fun e => hk (by simp [e]))⟩
theorem run_store_row (t : TypeId) (g off : Nat) (cs : Array Value) (hsz : (P.info? t).map (·.size) = some cs.size) (cur : Array Value) (ty : TypeId) (hb : Blk w g ty cur) (hfit : off + cs.size ≤ cur.size) (h1 : ∀ u ∈ cs.toList, u.oneCell' = true) :
    (storeVar t ⟨g, off, none⟩ (.agg cs)).run P w = .ok () (w.setRow g (over cur off cs)) := by
  have h := run_storeCells_at P g off ty cs.toList 0 cur w hb (by simpa using hfit) h1
  cases hq : P.info? t with
  | none => simp [hq] at hsz
  | some i =>
    have hi : i.size = cs.size := by simpa [hq] using hsz
    simp [storeVar, sizeOf, typeInfo, hq, hi, Value.cells]
    simpa [over] using h
theorem wp_store_row {o : Oper} {a : Act} {K : Act → World → Prop} {Q : Exit → Act → World → Prop} (p v : Operand) (t : TypeId) (ho : o.op = .store t p v) (g off : Nat) (cs : Array Value)
    (hp : a.eval p = .pointer (some ⟨g, off, none⟩)) (hv : a.eval v = .agg cs) (hsz : (P.info? t).map (·.size) = some cs.size) (cur : Array Value) (ty : TypeId) (hb : Blk w g ty cur) (hfit : off + cs.size ≤ cur.size) (h1 : ∀ u ∈ cs.toList, u.oneCell' = true)
    (h : ∀ w', Blk w' g ty (over cur off cs) → Fr [g] w w' → K (a.put o.dst undef) w') : o.wp P a w K Q := by
  have hr := run_store_row w t g off cs hsz cur ty hb hfit h1
  unfold Oper.wp execOp
  simp only [ho, hp, hv, Instr.storeAt, Instr.sureAddr, asAddr, Sem.run_bind, Sem.run_pure, Result.andThen_ok, hr]
  exact h _ (setRow_heap w g cur _ ty _ hb) (fr_setRow w g _)
theorem step_store_row {ops : Array Oper} {o : Oper} {a : Act} {K : Act → World → Prop} {Q : Exit → Act → World → Prop} {E : Prop} (hgd : o.guard = none) (p v : Operand) (t : TypeId) (ho : o.op = .store t p v) (g off : Nat) (cs : Array Value)
    (hp : a.eval p = .pointer (some ⟨g, off, none⟩)) (hv : a.eval v = .agg cs) (hsz : (P.info? t).map (·.size) = some cs.size) (cur : Array Value) (ty : TypeId) (hb : Blk w g ty cur) (hfit : off + cs.size ≤ cur.size) (h1 : ∀ u ∈ cs.toList, u.oneCell' = true)
    (h : ∀ w', Blk w' g ty (over cur off cs) → Fr [g] w w' → K (a.put o.dst undef) w') :
    if Region.wanted o (yielded ops a.tmps) = true then Oper.wp P o a w K Q else E := by
  have hw : Region.wanted o (yielded ops a.tmps) = true := by simp [Region.wanted, hgd]
  rw [if_pos hw]
  exact wp_store_row w p v t ho g off cs hp hv hsz cur ty hb hfit h1 h
theorem wpList_store_row {ops : Array Oper} {rest : List Oper} {o : Oper} {a : Act} {Q : Exit → Act → World → Prop} (hgd : o.guard = none) (p v : Operand) (t : TypeId) (ho : o.op = .store t p v) (g off : Nat) (cs : Array Value)
    (hp : a.eval p = .pointer (some ⟨g, off, none⟩)) (hv : a.eval v = .agg cs) (hsz : (P.info? t).map (·.size) = some cs.size) (cur : Array Value) (ty : TypeId) (hb : Blk w g ty cur) (hfit : off + cs.size ≤ cur.size) (h1 : ∀ u ∈ cs.toList, u.oneCell' = true)
    (h : ∀ w', Blk w' g ty (over cur off cs) → Fr [g] w w' → wpList P ops Q rest (a.put o.dst undef) w') : wpList P ops Q (o :: rest) a w :=
  wpList_plain hgd fun _ hK => wp_store_row w p v t ho g off cs hp hv hsz cur ty hb hfit h1 fun w' h2 h3 => hK _ _ (h w' h2 h3)
end
end Go.Proofs.Ytdocdgghphhdpaa

