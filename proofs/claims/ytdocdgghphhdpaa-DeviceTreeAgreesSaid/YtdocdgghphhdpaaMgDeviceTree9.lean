/- Walks: depgraph.checkLinks. -/
import Derived.Test.YtdocdgghphhdpaaMgDeviceTree7
import Derived.Test.YtdocdgghphhdpaaMgDeviceTree8
import Derived.Deep.QuietTactic
import Derived.BigQuiet
import Derived.Lib.Hide
import Derived.Deep.LoopGhost
import Derived.Test.YtdocdgghphhdpaaMgDeviceTree2
import Derived.Test.YtdocdgghphhdpaaProg
import Derived.Deep.RegionHeld3
import Derived.Deep.RegionLaw
import Derived.StillTailTactics
namespace Go.Proofs.Ytdocdgghphhdpaa
open Go.RowKit

def ChkRel (w : World) (n : Int) (l : List (Int × Int)) (m : Nat) (i : Value) (wr : World) : Prop :=
  ∃ k : Nat, k ≤ l.length ∧ i = .int .i64 k ∧ (∀ p ∈ l.take k, LinkOk n p) ∧ Fr [] w wr ∧ m = l.length - k
def SeenRel (w : World) (b : Nat) (l : List (Int × Int)) (m : Nat) (i : Value) (wr : World) : Prop :=
  ∃ k : Nat, k ≤ l.length ∧ i = .int .i64 k ∧ (l.take k).Nodup ∧ MapAt wr b (l.take k) ∧ Fr [] w wr ∧ m = l.length - k

set_option maxHeartbeats 2000000 in
theorem checkLinks_any (n : Int) (A : Option Addr) (cp : Nat) (l : List (Int × Int)) (w : World) (hr : Row w A (pcs l)) (hm : l.length ≤ 4096) :
    Calls Try.prog 77 #[.int .i64 n, .slice A l.length cp] w fun e w' => e = .returned (.int .i64 (basicM n l)) ∧ Fr [] w w' := by
  have HR := hide hr
  clear hr
  by_cases hh : 0 ≤ n ∧ n ≤ 128 ∧ l.length ≤ 1024
  · obtain ⟨h0, h1, h2⟩ := hh
    go_enter Try.func77, Try.ntmps77
    go_wp2
    go_loopg [23] l.length (fun m i wr => ChkRel w n l m i wr)
    case atStart => exact ⟨0, by omega, rfl, by simp, Fr.refl _ _, rfl⟩
    case round =>
      obtain ⟨k, hk, rfl, hok, hfr, hmm⟩ := hrel
      have HOK := hide hok
      have HM := hide hmm
      clear hok hmm
      by_cases hlt : k < l.length
      · obtain ⟨p, hp⟩ : ∃ p, l[k]? = some p := ⟨_, List.getElem?_eq_getElem hlt⟩
        obtain ⟨ob, oo, rfl, c1, c2⟩ := (HR.out.fr0 hfr).link hp
        have HP := hide hp
        clear hp
        have hkl : (k : Int) < (l.length : Int) := by omega
        obtain ⟨c, s⟩ := p
        simp only at c1 c2
        go_wp2
        all_goals first
          | (go_roundg (l.length - (k + 1))
             case measure => rw [HM.out]; omega
             case rel =>
               refine ⟨k + 1, by omega, by go_num, fun q hq => ?_, hfr.alloc _, rfl⟩
               rw [take_succ_some HP.out] at hq
               rcases List.mem_append.1 hq with h | h
               · exact HOK.out q h
               · rw [List.mem_singleton.1 h]
                 unfold LinkOk
                 simp only
                 omega)
          | (go_ret
             refine ⟨ret_int (basicM_not (fun h => ?_)).symm, hfr.alloc _⟩
             have h9 := h.2.2.2 (c, s) (List.mem_of_getElem? HP.out)
             unfold LinkOk at h9
             simp only at h9
             omega)
      · have hkl : ¬ (k : Int) < (l.length : Int) := by omega
        have hall : LinksOk n l := ⟨h0, h1, h2, by have := HOK.out; rwa [List.take_of_length_le (by omega)] at this⟩
        have HALL := hide hall
        clear hall HOK
        have hmk := run_make_links (l.length : Int)
        have hnew := MapAt.new wr
        have hfr1 : Fr [] w (wr.alloc (.map #[] 0)) := hfr.alloc _
        have hbw : w.heap.size ≤ wr.heap.size := hfr.size
        go_wp2
        generalize (wr.alloc (.map #[] 0)) = w1 at hnew hfr1 ⊢
        generalize wr.heap.size = b at hnew hbw ⊢
        clear hmk
        go_loopg [53] l.length (fun m i wi => SeenRel w b l m i wi)
        case atStart => exact ⟨0, by omega, rfl, by simp, hnew, hfr1, rfl⟩
        case round =>
          clear hnew hfr1 hfr HM
          obtain ⟨k, hk, rfl, hnd, hmap, hfr, hmm⟩ := hrel
          have HND := hide hnd
          have HMM := hide hmm
          have HMAP := hide hmap
          clear hnd hmm hmap
          by_cases hlt : k < l.length
          · obtain ⟨p, hp⟩ : ∃ p, l[k]? = some p := ⟨_, List.getElem?_eq_getElem hlt⟩
            obtain ⟨ob, oo, rfl, c1, c2⟩ := (HR.out.fr0 hfr).link hp
            have HP := hide hp
            clear hp
            have hkl : (k : Int) < (l.length : Int) := by omega
            have hmap1 := HMAP.out.fr ((Fr.refl [] _).alloc (.cells #[.int .i64 p.1, .int .i64 p.2] 76)) (by simp)
            have hlk := hmap1.lookup p
            by_cases hin : p ∈ l.take k
            · rw [decide_eq_true hin] at hlk
              clear hmap1
              obtain ⟨c, s⟩ := p
              simp only at c1 c2 hlk
              go_wp2
              go_ret
              refine ⟨ret_int (basicM_dup HALL.out (fun hd => ?_)).symm, hfr.alloc _⟩
              have h1 := split_at_some HP.out
              rw [h1, List.nodup_append] at hd
              exact hd.2.2 _ hin _ (List.mem_cons_self ..) rfl
            · rw [decide_eq_false hin] at hlk
              obtain ⟨w5, hup, hmap5, hfr5⟩ := hmap1.update p hin
              have hfr5' := (hfr.alloc (.cells #[.int .i64 p.1, .int .i64 p.2] 76)).step hfr5 (fun i hi => .inr (by rw [List.mem_singleton.1 hi]; exact hbw))
              have hnd' : (l.take (k + 1)).Nodup := by
                rw [take_succ_some HP.out, List.nodup_append]
                exact ⟨HND.out, by simp, fun a ha b hb => by rw [List.mem_singleton.1 hb]; rintro rfl; exact hin ha⟩
              have HND5 := hide hnd'
              have HM5 := hide hmap5
              rw [← take_succ_some HP.out] at HM5
              clear hmap1 hnd' hmap5 hfr5 hin
              obtain ⟨c, s⟩ := p
              simp only at c1 c2 hlk hup
              go_wp2
              go_roundg (l.length - (k + 1))
              case measure => rw [HMM.out]; omega
              case rel => exact ⟨k + 1, by omega, by go_num, HND5.out, HM5.out, hfr5', rfl⟩
          · have hkl : ¬ (k : Int) < (l.length : Int) := by omega
            go_wp2
            go_ret
            refine ⟨ret_int (basicM_ok HALL.out ?_).symm, hfr⟩
            have := HND.out
            rwa [List.take_of_length_le (by omega)] at this
  · have hx : n < 0 ∨ 128 < n ∨ 1024 < (l.length : Int) := by omega
    have hno : ¬ LinksOk n l := fun h => hh ⟨h.1, h.2.1, h.2.2.1⟩
    have HNO := hide hno
    clear hh hno
    go_enter Try.func77, Try.ntmps77
    go_wp2
    all_goals first
      | (go_ret
         exact ⟨ret_int (basicM_not HNO.out).symm, Fr.refl _ _⟩)
      | (exfalso; omega)
end Go.Proofs.Ytdocdgghphhdpaa

/- A slice of slices of ints that the call itself makes: block g bears the rows' slices, each row owns its cells, no two rows share a block. -/
namespace Go.Proofs.Ytdocdgghphhdpaa
open Go.RowKit

structure ListsIn (w : World) (base g : Nat) (ls : List (List Nat)) (cs : Array Value) : Prop where
  blk : Blk w g 34 cs
  size : cs.size = ls.length
  low : base ≤ g
  rows : ∀ (i : Nat) (l : List Nat) (v : Value), ls[i]? = some l → cs[i]? = some v → w.ownsRow base 3 1 v l.length (l.map nv)
  apart : ∀ (i j : Nat) (v u : Value) (k : Nat), cs[i]? = some v → cs[j]? = some u → v.ownBlock = some k → u.ownBlock = some k → i = j
def ListsAt (w : World) (base g : Nat) (ls : List (List Nat)) : Prop := ∃ cs, ListsIn w base g ls cs

section
variable {w w' : World} {base g : Nat} {ls : List (List Nat)}
theorem ListsAt.lt (h : ListsAt w base g ls) : g < w.heap.size := by
  obtain ⟨cs, h⟩ := h
  exact h.blk.lt
theorem ListsAt.base_ (h : ListsAt w base g ls) : base ≤ g := by
  obtain ⟨cs, h⟩ := h
  exact h.low
theorem ListsAt.fr0 (h : ListsAt w base g ls) (k : Fr [] w w') : ListsAt w' base g ls := by
  obtain ⟨cs, h⟩ := h
  exact ⟨cs, h.blk.fr k (by simp), h.size, h.low, fun i l v hl hv => own_fr (h.rows i l v hl hv) k (fun _ _ => by simp), h.apart⟩
/-- Blocks of other types than int and []int, or new ones, may turn. -/
theorem ListsAt.fr {S : List Nat} (h : ListsAt w base g ls) (k : Fr S w w') (hS : ∀ g', g' ∈ S → g' < w.heap.size → ∃ t cs, Blk w g' t cs ∧ t ≠ 3 ∧ t ≠ 34) : ListsAt w' base g ls := by
  obtain ⟨cs, h⟩ := h
  refine ⟨cs, h.blk.fr k (fun hm => ?_), h.size, h.low, fun i l v hl hv => own_fr (h.rows i l v hl hv) k (fun g' hg hm => ?_), h.apart⟩
  · obtain ⟨t, cs', hb, _, hne⟩ := hS g hm h.blk.lt
    exact Blk.ne_ hb h.blk hne rfl
  · obtain ⟨_, hlt, cs', hb⟩ := own_block (h.rows i l v hl hv) hg
    obtain ⟨t, cs'', hb', hne, _⟩ := hS g' hm hlt
    exact Blk.ne_ hb' hb hne rfl
theorem ListsAt.mono {base' : Nat} (h : ListsAt w base g ls) (hb : base' ≤ base) : ListsAt w base' g ls := by
  obtain ⟨cs, h⟩ := h
  exact ⟨cs, h.blk, h.size, Nat.le_trans hb h.low, fun i l v hl hv => own_base (h.rows i l v hl hv) hb, h.apart⟩
theorem getElem?_of_size {cs : Array Value} {i : Nat} (h : i < cs.size) : ∃ v, cs[i]? = some v := ⟨cs[i], Array.getElem?_eq_getElem h⟩
theorem lt_of_get' {cs : Array Value} {i : Nat} {v : Value} (h : cs[i]? = some v) : i < cs.size := (Array.getElem?_eq_some_iff.1 h).1
theorem ListsAt.at_ (h : ListsAt w base g ls) {i : Nat} {l : List Nat} (hl : ls[i]? = some l) : ∃ v, w.cell? ⟨g, i, none⟩ = some v ∧ w.frozen? ⟨g, i, none⟩ = false ∧ w.ownsRow base 3 1 v l.length (l.map nv) ∧
    (∀ k, v.ownBlock = some k → k ≠ g ∧ base ≤ k ∧ k < w.heap.size ∧ ∃ cs, Blk w k 3 cs) ∧
    (∀ (w1 : World) (v' : Value) (x : Nat), Fr v.ownBlock.toList w w1 → w1.ownsRow base 3 1 v' (l.length + 1) ((l ++ [x]).map nv) → (v'.ownBlock = v.ownBlock ∨ ∃ k, w.heap.size ≤ k ∧ v'.ownBlock = some k) → ListsAt (w1.setCell ⟨g, i, none⟩ v') base g (ls.set i (l ++ [x]))) := by
  obtain ⟨cs, h⟩ := h
  have hi : i < cs.size := by rw [h.size]; exact (List.getElem?_eq_some_iff.1 hl).1
  obtain ⟨v, hv⟩ := getElem?_of_size hi
  have hown := h.rows i l v hl hv
  have hne : ∀ k, v.ownBlock = some k → k ≠ g ∧ base ≤ k ∧ k < w.heap.size ∧ ∃ cs, Blk w k 3 cs := fun k hk => by
    obtain ⟨h1, h2, cs', hb⟩ := own_block hown hk
    exact ⟨Blk.ne_ hb h.blk (by decide), h1, h2, cs', hb⟩
  refine ⟨v, (h.blk.cell i).trans hv, h.blk.frozen i, hown, hne, fun w1 v' x k hown' hat => ?_⟩
  have hg1 : Blk w1 g 34 cs := h.blk.fr k (fun hm => by
    cases hvb : v.ownBlock with
    | none => rw [hvb] at hm; cases hm
    | some y => rw [hvb] at hm; exact (hne y hvb).1 (List.mem_singleton.1 hm).symm)
  have hv'g : ∀ y, v'.ownBlock = some y → y ≠ g := fun y hy => by
    obtain ⟨_, _, cs', hb⟩ := own_block hown' hy
    exact Blk.ne_ hb hg1 (by decide)
  refine ⟨cs.setIfInBounds i v', hg1.set_ i v', by simp [h.size], h.low, fun j l' u hl' hu => ?_, fun j j' u u' y hu hu' hy hy' => ?_⟩
  · rw [Array.getElem?_setIfInBounds] at hu
    rw [List.getElem?_set] at hl'
    by_cases e : i = j
    · subst e
      rw [if_pos rfl, if_pos (by rw [← h.size]; exact hi)] at hl'
      rw [if_pos rfl, if_pos hi] at hu
      injection hl' with hl'
      injection hu with hu
      subst hl' hu
      rw [List.length_append]
      exact own_fr (S := [g]) hown' ((Fr.refl _ _).set (.inl (by simp)) _) (fun y hy => by simpa using hv'g y hy)
    · rw [if_neg e] at hl' hu
      have ho := h.rows j l' u hl' hu
      have hk : w1.ownsRow base 3 1 u l'.length (l'.map nv) := own_fr ho k (fun y hy hm => by
        cases hvb : v.ownBlock with
        | none => rw [hvb] at hm; cases hm
        | some z =>
          rw [hvb] at hm
          have hyz : y = z := List.mem_singleton.1 hm
          subst hyz
          exact e (h.apart i j v u y hv hu hvb hy))
      refine own_fr (S := [g]) hk ((Fr.refl _ _).set (.inl (by simp)) _) (fun y hy => ?_)
      obtain ⟨_, _, cs', hb⟩ := own_block ho hy
      have := Blk.ne_ hb h.blk (by decide)
      simpa using this
  · rw [Array.getElem?_setIfInBounds] at hu hu'
    have hfresh : ∀ (j : Nat) (u : Value), i ≠ j → cs[j]? = some u → u.ownBlock = some y → v'.ownBlock = some y → False := fun j u e hu hy hy' => by
      have hj : j < cs.size := lt_of_get' hu
      obtain ⟨l', hl'⟩ : ∃ l', ls[j]? = some l' := ⟨_, List.getElem?_eq_getElem (by rw [← h.size]; exact hj)⟩
      obtain ⟨_, hlt, _⟩ := own_block (h.rows j l' u hl' hu) hy
      rcases hat with hat | ⟨z, hz, hat⟩
      · exact e (h.apart i j v u y hv hu (by rw [← hat]; exact hy') hy)
      · rw [hat] at hy'
        injection hy' with hy'
        omega
    by_cases e : i = j
    · subst e
      rw [if_pos rfl, if_pos hi] at hu
      injection hu with hu
      subst hu
      by_cases e' : i = j'
      · exact e'
      · rw [if_neg e'] at hu'
        exact absurd (hfresh j' u' e' hu' hy' hy) id
    · rw [if_neg e] at hu
      by_cases e' : i = j'
      · subst e'
        rw [if_pos rfl, if_pos hi] at hu'
        injection hu' with hu'
        subst hu'
        exact absurd (hfresh j u e hu hy hy') id
      · rw [if_neg e'] at hu'
        exact h.apart j j' u u' y hu hu' hy hy'
theorem repl_get {α : Type} {n i : Nat} {a b : α} (h : (List.replicate n a)[i]? = some b) : i < n ∧ b = a := by
  rw [List.getElem?_replicate] at h
  by_cases hi : i < n
  · rw [if_pos hi] at h
    injection h with h
    exact ⟨hi, h.symm⟩
  · rw [if_neg hi] at h
    cases h
theorem repl_get' {α : Type} {n i : Nat} {a b : α} (h : (Array.replicate n a)[i]? = some b) : i < n ∧ b = a := by
  rw [Array.getElem?_replicate] at h
  by_cases hi : i < n
  · rw [if_pos hi] at h
    injection h with h
    exact ⟨hi, h.symm⟩
  · rw [if_neg hi] at h
    cases h
/-- All rows nil. -/
theorem ListsAt.new (w : World) (n : Nat) (hb : base ≤ w.heap.size) : ListsAt (w.alloc (.cells (Array.replicate n (.slice none 0 0)) 34)) base w.heap.size (List.replicate n []) := by
  refine ⟨_, Blk.new _ _ _, by simp, hb, fun i l v hl hv => ?_, fun i j v u k hv _ hk _ => ?_⟩
  · obtain ⟨_, rfl⟩ := repl_get hl
    obtain ⟨_, rfl⟩ := repl_get' hv
    exact own_nil _ _ _ _
  · obtain ⟨_, rfl⟩ := repl_get' hv
    cases hk
end
end Go.Proofs.Ytdocdgghphhdpaa

/- Walks: depgraph.neighbors. -/
namespace Go.Proofs.Ytdocdgghphhdpaa
open Go.RowKit

theorem ints_info : (Try.prog.info? 34).map (fun i => (i.zero, i.size, i.bytes)) = some (some (.slice none 0 0), 1, 24) := by kernel_rfl
theorem make_lists (n c : Nat) (hnc : n ≤ c) (hc : c ≤ 1000000) (w : World) : (Instr.makeSlice 165 (.int .i64 (n : Int)) (.int .i64 (c : Int))).run Try.prog w = .ok (.slice (some ⟨w.heap.size, 0, none⟩) n c) (w.alloc (.cells (Array.replicate c (.slice none 0 0)) 34)) :=
  run_make_one _ _ _ 24 Try.underlying165 ints_info rfl n c hnc (by omega) hc w

def NbRel (w : World) (g : Nat) (cons : Bool) (n : Nat) (l : List (Int × Int)) (m : Nat) (i : Value) (wr : World) : Prop :=
  ∃ k : Nat, k ≤ l.length ∧ i = .int .i64 k ∧ ListsAt wr w.heap.size g (nbs cons n (toNs (l.take k))) ∧ Fr [] w wr ∧ m = l.length - k
def NbRet (w : World) (cons : Bool) (n : Nat) (l : List (Int × Int)) (e : Ending) (w' : World) : Prop :=
  ∃ g, e = .returned (.slice (some ⟨g, 0, none⟩) n n) ∧ ListsAt w' w.heap.size g (nbs cons n (toNs l)) ∧ Fr [] w w'

end Go.Proofs.Ytdocdgghphhdpaa

