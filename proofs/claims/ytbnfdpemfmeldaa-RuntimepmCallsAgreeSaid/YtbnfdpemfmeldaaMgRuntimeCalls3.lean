/- A map keyed by links, whose elements are all true: what a look-up and a store do. -/
import Derived.Test.YtbnfdpemfmeldaaBase
import Derived.Test.YtbnfdpemfmeldaaProg
import Derived.Laws.StructEq
import Derived.Maps.Own
import Derived.Test.YtbnfdpemfmeldaaMgRuntimeCalls1
import Derived.Deep.QuietTactic
import Derived.BigQuiet
import Derived.Lib.Hide
import Derived.Deep.LoopGhost
namespace Go.Proofs.Ytbnfdpemfmeldaa
open Go.RowKit Go.ChangeMaps

/-- A link as a struct's value. -/
abbrev lv (p : Int × Int) : Value := .agg #[.int .i64 p.1, .int .i64 p.2]

theorem link_check (em : Bool) (p : Int × Int) (w : World) : (Instr.checkKey em 10000 67 (lv p)).run Try.prog w = .ok () w := by kernel_rfl
theorem link_equal (p q : Int × Int) (w : World) : (Op.equal 67 (lv p) (lv q)).run Try.prog w = .ok (decide (p = q)) w := by
  have h : (p.1 == q.1 && p.2 == q.2) = decide (p = q) := by
    rw [Bool.eq_iff_iff]
    simp [Prod.ext_iff]
  rw [← h]
  unfold Op.equal
  show (Op.equalIn 10000 _ _ _).run _ _ = _
  simp [go_sem]
  by_cases h1 : p.1 = q.1 <;> by_cases h2 : p.2 = q.2 <;> simp [h1, h2]

/-- Block b is a map whose keys are the links of l, in this order, each with the element true. -/
def MapAt (w : World) (b : Nat) (l : List (Int × Int)) : Prop :=
  ∃ es clock, w.heap[b]? = some (.map es clock) ∧ es.toList.map (fun e => (e.key, e.val)) = l.map fun p => (lv p, Value.bool true)

theorem MapAt.lt {w : World} {b : Nat} {l : List (Int × Int)} (h : MapAt w b l) : b < w.heap.size := by
  obtain ⟨es, clock, hb, _⟩ := h
  exact lt_of_block hb
theorem MapAt.fr {w w' : World} {b : Nat} {l : List (Int × Int)} {S : List Nat} (h : MapAt w b l) (k : Fr S w w') (hs : b ∉ S) : MapAt w' b l := by
  have hl := h.lt
  obtain ⟨es, clock, hb, he⟩ := h
  exact ⟨es, clock, (k.block b hl hs).trans hb, he⟩
theorem MapAt.new (w : World) : MapAt (w.alloc (.map #[] 0)) w.heap.size [] := ⟨#[], 0, heap_alloc_new w _, rfl⟩

theorem getobj_map {P : Program} {w : World} {r : Nat} {es : Array MapEntry} {clock : Nat} (hb : w.heap[r]? = some (.map es clock)) : (getObj r).run P w = .ok (.map es clock) w := by simp [getObj, Sem.run, hb]
theorem setobj_map {P : Program} {w : World} {r : Nat} {es : Array MapEntry} {clock : Nat} (o : Obj) (hb : w.heap[r]? = some (.map es clock)) : (setObj r o).run P w = .ok () (setBlock w r o) := by simp [setObj, Sem.run, hb, setBlock]
theorem find_asking (w : World) (p : Int × Int) : ∀ (es : List MapEntry) (l : List (Int × Int)) (i : Nat), es.map (fun e => (e.key, e.val)) = l.map (fun p => (lv p, Value.bool true)) →
    ∃ r, (Instr.findAsking 67 (lv p) es i).run Try.prog w = .ok r w ∧ (p ∈ l → ∃ j, r = some (j, .bool true)) ∧ (p ∉ l → r = none)
  | [], l, i, h => by
    have : l = [] := by cases l; rfl; cases h
    subst this
    exact ⟨none, rfl, by simp, fun _ => rfl⟩
  | e :: es, [], i, h => by cases h
  | e :: es, q :: l, i, h => by
    simp only [List.map_cons, List.cons.injEq, Prod.mk.injEq] at h
    obtain ⟨⟨hk, hv⟩, ht⟩ := h
    obtain ⟨r, hr, h1, h2⟩ := find_asking w p es l (i + 1) ht
    unfold Instr.findAsking
    rw [hk]
    have he := link_equal p q w
    by_cases hpq : p = q
    · refine ⟨some (i, .bool true), ?_, fun _ => ⟨i, rfl⟩, fun h => absurd (List.mem_cons.2 (.inl hpq)) h⟩
      rw [decide_eq_true hpq] at he
      simp [go_sem, he, hv]
    · refine ⟨r, ?_, fun h => h1 ?_, fun h => h2 (fun h' => h (List.mem_cons.2 (.inr h')))⟩
      · rw [decide_eq_false hpq] at he
        simp [go_sem, he, hr]
      · rcases List.mem_cons.1 h with h' | h'
        · exact absurd h' hpq
        · exact h'
theorem link_struct : ∃ kd, Try.prog.underlying 67 = some (.struct kd) := by
  have h : (match Try.prog.underlying 67 with | some (.struct _) => true | _ => false) = true := by kernel_rfl
  split at h
  · exact ⟨_, by assumption⟩
  · cases h
theorem find_key (w : World) (p : Int × Int) (es : List MapEntry) (l : List (Int × Int)) (h : es.map (fun e => (e.key, e.val)) = l.map (fun p => (lv p, Value.bool true))) :
    ∃ r, (Instr.findKey 67 (lv p) es).run Try.prog w = .ok r w ∧ (p ∈ l → ∃ j, r = some (j, .bool true)) ∧ (p ∉ l → r = none) := by
  unfold Instr.findKey
  cases es with
  | nil =>
    have : l = [] := by cases l; rfl; cases h
    subst this
    exact ⟨none, by kernel_rfl, by simp, fun _ => rfl⟩
  | cons e es =>
    obtain ⟨r, hr, h1, h2⟩ := find_asking w p (e :: es) l 0 h
    refine ⟨r, ?_, h1, h2⟩
    have hn : ∀ kd, Instr.findNow (.struct kd) (lv p) (e :: es) 0 = none := fun kd => by simp [Instr.findNow, Instr.sameNow]
    obtain ⟨kd, hu⟩ : ∃ kd, Try.prog.underlying 67 = some (.struct kd) := link_struct
    simp [run_underlying hu, hn, hr]

theorem run_make_links (n : Int) (w : World) : (Instr.makeMap 91 (some (.int .i64 n))).run Try.prog w = .ok (.map (some w.heap.size)) (w.alloc (.map #[] 0)) := by kernel_rfl
theorem bool_zero (w : World) : (zeroValue 4).run Try.prog w = .ok (.bool false) w := by kernel_rfl
theorem MapAt.lookup {w : World} {b : Nat} {l : List (Int × Int)} (h : MapAt w b l) (p : Int × Int) :
    (Instr.lookup 91 (.map (some b)) (lv p) false).run Try.prog w = .ok (.bool (decide (p ∈ l))) w := by
  obtain ⟨es, clock, hb, he⟩ := h
  obtain ⟨r, hr, h1, h2⟩ := find_key w p es.toList l he
  have hu : Try.prog.underlying 91 = some (.map 67 4) := by kernel_rfl
  unfold Instr.lookup
  by_cases hp : p ∈ l
  · obtain ⟨j, rfl⟩ := h1 hp
    simp [run_underlying hu, getobj_map hb, link_check, hr, hp]
  · have := h2 hp
    subst this
    simp [run_underlying hu, getobj_map hb, link_check, hr, hp]
theorem MapAt.update {w : World} {b : Nat} {l : List (Int × Int)} (h : MapAt w b l) (p : Int × Int) (hp : p ∉ l) :
    ∃ w', (Instr.mapUpdate 91 (.map (some b)) (lv p) (.bool true)).run Try.prog w = .ok () w' ∧ MapAt w' b (l ++ [p]) ∧ Fr [b] w w' := by
  obtain ⟨es, clock, hb, he⟩ := h
  obtain ⟨r, hr, h1, h2⟩ := find_key w p es.toList l he
  have hu : Try.prog.underlying 91 = some (.map 67 4) := by kernel_rfl
  have := h2 hp
  subst this
  refine ⟨setBlock w b (.map (es.push ⟨lv p, .bool true, clock⟩) (clock + 1)), ?_, ⟨_, _, heap_setBlock_same hb _, by simp [he]⟩, ⟨rfl, rfl, rfl, by simp [setBlock], fun i _ hi => heap_setBlock_other hb _ (fun e => hi (by simp [e]))⟩⟩
  unfold Instr.mapUpdate
  simp [run_underlying hu, getobj_map hb, link_check, hr, setobj_map _ hb]
end Go.Proofs.Ytbnfdpemfmeldaa

/- Walks: depgraph.checkLinks. -/
namespace Go.Proofs.Ytbnfdpemfmeldaa
open Go.RowKit

def ChkRel (w : World) (n : Int) (l : List (Int × Int)) (m : Nat) (i : Value) (wr : World) : Prop :=
  ∃ k : Nat, k ≤ l.length ∧ i = .int .i64 k ∧ (∀ p ∈ l.take k, LinkOk n p) ∧ Fr [] w wr ∧ m = l.length - k
def SeenRel (w : World) (b : Nat) (l : List (Int × Int)) (m : Nat) (i : Value) (wr : World) : Prop :=
  ∃ k : Nat, k ≤ l.length ∧ i = .int .i64 k ∧ (l.take k).Nodup ∧ MapAt wr b (l.take k) ∧ Fr [] w wr ∧ m = l.length - k

set_option maxHeartbeats 2000000 in
theorem checkLinks_any (n : Int) (A : Option Addr) (cp : Nat) (l : List (Int × Int)) (w : World) (hr : Row w A (pcs l)) (hm : l.length ≤ 4096) :
    Calls Try.prog 48 #[.int .i64 n, .slice A l.length cp] w fun e w' => e = .returned (.int .i64 (basicM n l)) ∧ Fr [] w w' := by
  have HR := hide hr
  clear hr
  by_cases hh : 0 ≤ n ∧ n ≤ 128 ∧ l.length ≤ 1024
  · obtain ⟨h0, h1, h2⟩ := hh
    go_enter Try.func48, Try.ntmps48
    go_wp2
    go_loopg [23] l.length (fun m i wr => ChkRel w n l m i wr)
    case atStart => exact ⟨0, by omega, rfl, by simp, Fr.refl _ _, rfl⟩
    case round =>
      obtain ⟨k, hk, rfl, hok, hfr, hmm⟩ := hrel
      have HOK := hide hok
      have HM := hide hmm
      clear hok hmm
      by_cases hlt : k < l.length
      · obtain ⟨p, hp⟩ : ∃ p, l[k]? = some p := ⟨_, List.getElem?_eq_getElem hlt⟩
        obtain ⟨ob, oo, rfl, c1, c2⟩ := (HR.out.fr0 hfr).link hp
        have HP := hide hp
        clear hp
        have hkl : (k : Int) < (l.length : Int) := by omega
        obtain ⟨c, s⟩ := p
        simp only at c1 c2
        go_wp2
        all_goals first
          | (go_roundg (l.length - (k + 1))
             case measure => rw [HM.out]; omega
             case rel =>
               refine ⟨k + 1, by omega, by go_num, fun q hq => ?_, hfr.alloc _, rfl⟩
               rw [take_succ_some HP.out] at hq
               rcases List.mem_append.1 hq with h | h
               · exact HOK.out q h
               · rw [List.mem_singleton.1 h]
                 unfold LinkOk
                 simp only
                 omega)
          | (go_ret
             refine ⟨ret_int (basicM_not (fun h => ?_)).symm, hfr.alloc _⟩
             have h9 := h.2.2.2 (c, s) (List.mem_of_getElem? HP.out)
             unfold LinkOk at h9
             simp only at h9
             omega)
      · have hkl : ¬ (k : Int) < (l.length : Int) := by omega
        have hall : LinksOk n l := ⟨h0, h1, h2, by have := HOK.out; rwa [List.take_of_length_le (by omega)] at this⟩
        have HALL := hide hall
        clear hall HOK
        have hmk := run_make_links (l.length : Int)
        have hnew := MapAt.new wr
        have hfr1 : Fr [] w (wr.alloc (.map #[] 0)) := hfr.alloc _
        have hbw : w.heap.size ≤ wr.heap.size := hfr.size
        go_wp2
        generalize (wr.alloc (.map #[] 0)) = w1 at hnew hfr1 ⊢
        generalize wr.heap.size = b at hnew hbw ⊢
        clear hmk
        go_loopg [53] l.length (fun m i wi => SeenRel w b l m i wi)
        case atStart => exact ⟨0, by omega, rfl, by simp, hnew, hfr1, rfl⟩
        case round =>
          clear hnew hfr1 hfr HM
          obtain ⟨k, hk, rfl, hnd, hmap, hfr, hmm⟩ := hrel
          have HND := hide hnd
          have HMM := hide hmm
          have HMAP := hide hmap
          clear hnd hmm hmap
          by_cases hlt : k < l.length
          · obtain ⟨p, hp⟩ : ∃ p, l[k]? = some p := ⟨_, List.getElem?_eq_getElem hlt⟩
            obtain ⟨ob, oo, rfl, c1, c2⟩ := (HR.out.fr0 hfr).link hp
            have HP := hide hp
            clear hp
            have hkl : (k : Int) < (l.length : Int) := by omega
            have hmap1 := HMAP.out.fr ((Fr.refl [] _).alloc (.cells #[.int .i64 p.1, .int .i64 p.2] 67)) (by simp)
            have hlk := hmap1.lookup p
            by_cases hin : p ∈ l.take k
            · rw [decide_eq_true hin] at hlk
              clear hmap1
              obtain ⟨c, s⟩ := p
              simp only at c1 c2 hlk
              go_wp2
              go_ret
              refine ⟨ret_int (basicM_dup HALL.out (fun hd => ?_)).symm, hfr.alloc _⟩
              have h1 := split_at_some HP.out
              rw [h1, List.nodup_append] at hd
              exact hd.2.2 _ hin _ (List.mem_cons_self ..) rfl
            · rw [decide_eq_false hin] at hlk
              obtain ⟨w5, hup, hmap5, hfr5⟩ := hmap1.update p hin
              have hfr5' := (hfr.alloc (.cells #[.int .i64 p.1, .int .i64 p.2] 67)).step hfr5 (fun i hi => .inr (by rw [List.mem_singleton.1 hi]; exact hbw))
              have hnd' : (l.take (k + 1)).Nodup := by
                rw [take_succ_some HP.out, List.nodup_append]
                exact ⟨HND.out, by simp, fun a ha b hb => by rw [List.mem_singleton.1 hb]; rintro rfl; exact hin ha⟩
              have HND5 := hide hnd'
              have HM5 := hide hmap5
              rw [← take_succ_some HP.out] at HM5
              clear hmap1 hnd' hmap5 hfr5 hin
              obtain ⟨c, s⟩ := p
              simp only at c1 c2 hlk hup
              go_wp2
              go_roundg (l.length - (k + 1))
              case measure => rw [HMM.out]; omega
              case rel => exact ⟨k + 1, by omega, by go_num, HND5.out, HM5.out, hfr5', rfl⟩
          · have hkl : ¬ (k : Int) < (l.length : Int) := by omega
            go_wp2
            go_ret
            refine ⟨ret_int (basicM_ok HALL.out ?_).symm, hfr⟩
            have := HND.out
            rwa [List.take_of_length_le (by omega)] at this
  · have hx : n < 0 ∨ 128 < n ∨ 1024 < (l.length : Int) := by omega
    have hno : ¬ LinksOk n l := fun h => hh ⟨h.1, h.2.1, h.2.2.1⟩
    have HNO := hide hno
    clear hh hno
    go_enter Try.func48, Try.ntmps48
    go_wp2
    all_goals first
      | (go_ret
         exact ⟨ret_int (basicM_not HNO.out).symm, Fr.refl _ _⟩)
      | (exfalso; omega)
end Go.Proofs.Ytbnfdpemfmeldaa

