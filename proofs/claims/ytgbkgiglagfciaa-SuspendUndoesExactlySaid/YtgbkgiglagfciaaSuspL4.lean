/- The law SuspendUndoesExactly, walked. -/
import Derived.Test.YtgbkgiglagfciaaSuspL3
namespace Go.Proofs.Ytgbkgiglagfciaa
open Go.RowKit

def GoodRel (w : World) (b : Nat) (o : List Nat) (K : Nat) (m : Nat) (vg v : Value) (wr : World) : Prop :=
  ∃ k : Nat, k ≤ K ∧ v = .int .i64 k ∧ DnAt wr b o k ∧ wr.ownsRow w.heap.size 30 2 vg k (opCells (goodK o k)) ∧ Fr [] w wr ∧ m = K - k
def UndRel (wc : World) (b : Nat) (L : List (Nat × Nat)) (c : Int) (m : Nat) (vu vl v : Value) (wr : World) : Prop :=
  ∃ (i last : Nat), i ≤ L.length ∧ v = .int .i64 i ∧ vl = .int .i64 last ∧ (∀ x, x ∈ L.drop i → last ≤ x.1) ∧ UnAt wr b (L.drop i) c ∧ wr.ownsRow wc.heap.size 30 2 vu i (opCells (L.take i)) ∧ Fr [b] wc wr ∧ m = L.length - i
def GoRel (w2 : World) (n : Nat) (m : Nat) (v : Value) (wr : World) : Prop := ∃ i : Nat, i ≤ n ∧ v = .int .i64 i ∧ Fr [] w2 wr ∧ m = n - i
def CntRel (w2 : World) (L : List (Nat × Nat)) (x : Nat × Nat) (m : Nat) (vn v : Value) (wr : World) : Prop :=
  ∃ k : Nat, k ≤ L.length ∧ v = .int .i64 k ∧ vn = .int .i64 ((L.take k).count x : Nat) ∧ Fr [] w2 wr ∧ m = L.length - k

theorem own_apart {w : World} {b base n : Nat} {v : Value} {xs : List Value} (h : w.ownsRow base 30 2 v n xs) (hb : ∃ cs, Blk w b 78 cs) : ∀ g, v.ownBlock = some g → g ∉ [b] := by
  intro g hg hm
  have e : g = b := by simpa using hm
  subst e
  obtain ⟨_, _, cs, h1⟩ := own_block h hg
  obtain ⟨cs2, h2⟩ := hb
  exact Blk.ne_ h1 h2 (by decide) rfl
theorem DnAt.blk_ {w : World} {b k : Nat} {o : List Nat} (h : DnAt w b o k) : ∃ cs, Blk w b 78 cs := by
  obtain ⟨S, ⟨A, cp, cs, hb, _⟩, _⟩ := h
  exact ⟨cs, hb⟩
theorem UnAt.blk_ {w : World} {b : Nat} {L : List (Nat × Nat)} {c : Int} (h : UnAt w b L c) : ∃ cs, Blk w b 78 cs := by
  obtain ⟨S, ⟨A, cp, cs, hb, _⟩, _⟩ := h
  exact ⟨cs, hb⟩
theorem own_blocks {w : World} {b base n : Nat} {v : Value} {xs : List Value} (h : w.ownsRow base 30 2 v n xs) (hb : ∃ cs, Blk w b 78 cs) :
    b ∉ v.ownBlock.toList ∧ ∀ g, g ∈ v.ownBlock.toList → g < w.heap.size → ∃ t cs, Blk w g t cs ∧ t ≠ 3 := by
  refine ⟨fun hm => own_apart h hb b (by simpa using hm) (by simp), fun g hg _ => ?_⟩
  obtain ⟨_, _, cs, h1⟩ := own_block h (g := g) (by simpa using hg)
  exact ⟨_, cs, h1, by decide⟩
theorem pair_cells {w : World} {A : Option Addr} {L : List (Nat × Nat)} {k : Nat} (h : Row w A (opCells L)) (hk : k < L.length) :
    ∃ ob oo, A = some ⟨ob, oo, none⟩ ∧ w.cell? ⟨ob, oo + k * 2, none⟩ = some (nv L[k].1) ∧ w.cell? ⟨ob, oo + k * 2 + 1, none⟩ = some (nv L[k].2) := by
  have hg : L[k]? = some L[k] := List.getElem?_eq_getElem hk
  obtain ⟨ob, oo, e, hc1⟩ := h.at_ (opCells_get hg).1
  obtain ⟨ob', oo', e', hc2⟩ := h.at_ (opCells_get hg).2
  rw [e] at e'
  cases e'
  exact ⟨ob, oo, e, hc1, by rw [Nat.add_assoc]; exact hc2⟩

set_option maxHeartbeats 4000000 in
set_option maxRecDepth 100000 in
theorem undoes_walk (A : Option Addr) (cp : Nat) (raw : List Int) (where_ code : Int) (ab : Bool) (w : World) (hr : Row w A (raw.map (Value.int .i64))) (hm : raw.length ≤ maxLen) :
    Calls Try.prog 8 #[.slice A raw.length cp, .int .i64 where_, .int .i64 code, .bool ab] w fun e w' => e = .returned (.bool true) ∧ Fr [] w w' := by
  obtain ⟨i0, hi0, hz0, hz1, hz2⟩ := info_parts op_info
  have HI := hide (And.intro hi0 (And.intro hz0 (And.intro hz1 hz2)))
  unfold maxLen at hm
  have HR := hide hr
  clear hr hi0 hz0 hz1 hz2
  by_cases h20 : 20 < raw.length ∨ code = 0
  · have hb : (decide ((20 : Int) < (raw.length : Int)) = true) ∨ (decide ((20 : Int) < (raw.length : Int)) = false ∧ (code == 0) = true) := by
      by_cases g1 : 20 < raw.length
      · exact .inl (by simp; omega)
      · exact .inr ⟨by simp; omega, beq_iff_eq.2 (by omega)⟩
    clear h20
    rcases hb with hb | ⟨hb, hb2⟩
    all_goals
      go_enter Try.func8, Try.ntmps8
      go_wp2_with fail
      refine (awake30_any w).mono ?_
      rintro e w1 ⟨rfl, hfr⟩
      go_wp2
      go_ret
      exact ⟨rfl, hfr⟩
  · have hb : decide ((20 : Int) < (raw.length : Int)) = false := by simp; omega
    have hb3 : (code == 0) = false := beq_eq_false_iff_ne.2 (by omega)
    have h20' : raw.length ≤ 20 := by omega
    have hc0 : code ≠ 0 := by omega
    have HC0 := hide hc0
    clear h20 hm hc0
    go_enter Try.func8, Try.ntmps8
    go_wp2_with fail
    refine (order_any A cp raw w HR.out (by omega)).mono ?_
    rintro e w1 ⟨v1, rfl, hown1, hfr1⟩
    obtain ⟨A1, c1, rfl, hA1, hrow1, -⟩ := own_slice hown1
    have HA1 := hide hA1
    have HR1 := hide hrow1
    have hlen := ordR_length raw
    have HOK := hide (ordR_ok raw)
    have HN := hide (ordR_nodup raw)
    have HO := hide (ordR_okOrd raw)
    generalize ordR raw = o at hlen HOK HR1 HN HO ⊢
    have h7 : o.length ≤ 7 := by omega
    clear hlen hA1 hrow1 hown1
    go_wp2_with fail
    refine (new_ord A1 c1 o w1 HOK.out HR1.out HA1.out).mono ?_
    rintro e w2 ⟨b, rfl, hbg, hdn, hfr2⟩
    have hbw : w.heap.size ≤ b := Nat.le_trans hfr1.size hbg
    have hfr : Fr [] w w2 := hfr1.call hfr2
    have HD := hide hdn
    clear hdn hfr1 hfr2 hbg HR1
    by_cases hz : o.length = 0
    · have hzb : ((o.length : Int) == 0) = true := beq_iff_eq.2 (by omega)
      have hsl := dn_asleep HD.out
      have hdd : decide (0 = 4 * o.length) = true := by simp; omega
      rw [hdd] at hsl
      have HSL := hide hsl
      clear hdd hsl
      go_wp2_with fail
      refine HSL.out.mono ?_
      rintro e w3 ⟨rfl, rfl⟩
      go_wp2_with fail
      refine (awake30_any _).mono ?_
      rintro e w10 ⟨rfl, hfr10⟩
      go_wp2
      go_ret
      exact ⟨rfl, hfr.call hfr10⟩
    · have hzb : ((o.length : Int) == 0) = false := beq_eq_false_iff_ne.2 (by omega)
      have hK := umod_lt where_ (show 0 < 4 * o.length by omega)
      generalize hKe : umod where_ (4 * o.length) = K at hK
      have HK := hide hKe
      clear hKe
      go_wp2_with fail
      go_loopg [12, 14] K (fun m vg v wr => GoodRel w b o K m vg v wr)
      case atStart => exact ⟨0, by omega, rfl, HD.out, own_nil _ _ _ _, hfr, rfl⟩
      case round =>
        obtain ⟨k, hk, rfl, hdn, hown, hfk, hmm⟩ := hrel
        obtain ⟨A7, cp7, rfl, -, hrow7, hlt7⟩ := own_slice hown
        have HM := hide hmm
        have HD1 := hide hdn
        have HOWN := hide hown
        have HROW := hide hrow7
        have HLT := hide hlt7
        clear hmm hdn HD hfr hown hrow7 hlt7
        go_wp2_with fail
        refine (mod_any where_ (4 * o.length) _ (by omega) (by omega)).mono ?_
        rintro e w4 ⟨rfl, rfl⟩
        rw [HK.out]
        by_cases hlt : k < K
        · have hkb : decide ((k : Int) < (K : Int)) = true := by simp; omega
          go_wp2_with fail
          refine (dn_next HD1.out (by omega)).mono ?_
          rintro e w3 ⟨rfl, hfr3⟩
          have hgs := goodK_snoc (o := o) (k := k) (by omega)
          generalize opAt o k = x at hgs ⊢
          obtain ⟨p, d⟩ := x
          have HGS := hide hgs
          have hdn3 := (HD1.out.fr0 hfr3).fr0 ((Fr.refl [] w3).alloc (.cells #[nv p, nv d] 30))
          have hown3 := own_fr (own_fr HOWN.out hfr3 (fun _ _ => by simp)) ((Fr.refl [] w3).alloc (.cells #[nv p, nv d] 30)) (fun _ _ => by simp)
          have hf3 := (hfk.call hfr3).alloc (.cells #[nv p, nv d] 30)
          have HD3 := hide hdn3
          have HOWN3 := hide hown3
          clear hgs hdn3 hown3 hfr3 hfk
          go_wp2_with fail
          refine (dn_complete HD3.out (by omega)).mono ?_
          rintro e w4 ⟨rfl, hdn4, hfr4⟩
          have hown4 := own_fr HOWN3.out hfr4 (own_apart HOWN3.out HD3.out.blk_)
          have hbx := (Blk.new w3 30 #[nv p, nv d]).fr hfr4 (fun hm => by obtain ⟨cs, hb⟩ := HD3.out.blk_; exact Blk.ne_ (Blk.new w3 30 #[nv p, nv d]) hb (by decide) (List.mem_singleton.1 hm))
          have hx0 := hbx.cell 0
          have hx1 := hbx.cell 1
          simp at hx0 hx1
          have hf4 := hf3.call' hfr4 hbw
          have HD4 := hide hdn4
          have HOWN4 := hide hown4
          have hlt4 := hbx.lt
          clear hdn4 hown4 hfr4 hf3 HD3 HOWN3 hbx
          go_wp2_with (first
            | (at_builtin
               refine wpList_append_row _ rfl (.tmp 76) (.tmp 78) _ rfl w.heap.size 30 i0 (.agg #[.int .i64 0, .int .i64 0]) 2 16 Try.underlying31 HI.out.1 HI.out.2.1 HI.out.2.2.1 HI.out.2.2.2 rfl (by omega) (.slice A7 k cp7) k (opCells (goodK o k)) rfl
                 (own_fr HOWN4.out ((Fr.refl [] _).alloc _) (fun _ _ => by simp)) (some ⟨w4.heap.size, 0, none⟩) 1 1 [nv p, nv d] rfl rfl (row_lit _ _ _ (by simp)) (one2 p d) (by simp only [maxLen]; omega) (by omega) (by have := hf4.size; simp; omega) ?_
               intro v1 w5 hown5 hg5 hat5))
          have hfr5 : Fr (Value.ownBlock (.slice A7 k cp7)).toList w4 w5 := ((Fr.refl _ _).alloc _).grown hg5 (fun g e => .inl (by rw [e]; simp))
          have hd5 := HD4.out.fr hfr5 (own_blocks HOWN4.out HD4.out.blk_).1 (own_blocks HOWN4.out HD4.out.blk_).2
          have hf5 : Fr [] w w5 := hf4.step hfr5 (fun g hg => .inr (own_block HOWN4.out (g := g) (by simpa using hg)).1)
          go_roundg (K - (k + 1))
          case measure => rw [HM.out]; omega
          case rel =>
            refine ⟨k + 1, by omega, by go_num, hd5, ?_, hf5, rfl⟩
            rw [HGS.out, opCells_snoc]
            exact hown5
        · have hkb : decide ((k : Int) < (K : Int)) = false := by simp; omega
          have hke : k = K := by omega
          subst hke
          have hgl := goodK_length (o := o) (k := k) (by omega)
          have hul := undo_length HN.out HO.out k
          have HSORT := hide (undoPlan_sorted (o := o) (goodK_nodup HN.out HO.out k))
          have HCNT := hide (fun x (hx : x ∈ goodK o k) => undo_count HN.out HO.out hx)
          have HMEM := hide (fun x (hx : x ∈ goodK o k) => mem_goodK HO.out hx)
          have hdn1 := HD1.out
          have hown1 := HOWN.out
          obtain ⟨c, hc⟩ : ∃ c : Int, c = if ab then 20 else code := ⟨_, rfl⟩
          cases ab
          case' false =>
            have hce : c = code := by simpa using hc
            have HC := hide hce
            clear hc hce
            go_wp2_with fail
            refine (dn_fail HD1.out HN.out (by omega) HC0.out).mono ?_
            rintro e w5 ⟨rfl, hun, hfr5⟩
          case' true =>
            have hce : c = 20 := by simpa using hc
            have HC := hide hce
            clear hc hce
            go_wp2_with fail
            refine (dn_abort HD1.out HN.out (by omega)).mono ?_
            rintro e w5 ⟨rfl, hun, hfr5⟩
          all_goals
            rw [← HC.out] at hun
            have hcn : c ≠ 0 := by rw [HC.out]; first | exact HC0.out | omega
            have HCN := hide hcn
            have hown5 := own_fr hown1 hfr5 (own_apart hown1 hdn1.blk_)
            have hoff5 : Off A7 [b] := by
              intro ad e
              subst e
              exact own_apart hown5 hun.blk_ ad.block rfl
            have hrow5 : Row w5 A7 (opCells (goodK o k)) := Row.of_own hown5
            have hf5 := hfk.call' hfr5 hbw
            generalize undoPlan o (goodK o k) = L at hul HSORT HCNT hun
            generalize goodK o k = G at hul hgl HMEM HCNT hrow5 hown5 hown1 HROW HOWN
            have HU5 := hide hun
            have HG5 := hide hrow5
            have HOFF := hide hoff5
            clear hun hrow5 hoff5 hown5 hown1 hdn1 hfr5 hfk HD1 HOWN HROW HLT HM HK hcn
            go_wp2
            go_loopg [13, 18, 92] L.length (fun m vu vl v wr => UndRel w5 b L c m vu vl v wr)
            case atStart => exact ⟨0, 0, by omega, rfl, rfl, fun x _ => Nat.zero_le _, HU5.out, own_nil _ _ _ _, Fr.refl _ _, rfl⟩
            case round =>
              obtain ⟨i, last, hi, rfl, rfl, hlast, hun, hown, hfi, hmm⟩ := hrel
              obtain ⟨A8, cp8, rfl, -, hrow8, -⟩ := own_slice hown
              have HMI := hide hmm
              have HLA := hide hlast
              have HOWN := hide hown
              have HROW8 := hide hrow8
              clear hmm hlast hown hrow8 HU5
              have hib : decide ((i : Int) < 8 * (o.length : Int)) = true := by simp; omega
              by_cases hil : i < L.length
              · have hx : L.drop i = L[i] :: L.drop (i + 1) := List.drop_eq_getElem_cons hil
                have hts : L.take (i + 1) = L.take i ++ [L[i]] := by rw [List.take_succ_eq_append_getElem hil]
                have hpw := HSORT.out.sublist (List.drop_sublist i L)
                have hla := HLA.out
                rw [hx] at hun hpw hla
                generalize L[i] = x at hun hts hpw hla
                obtain ⟨p, d⟩ := x
                have hp1 : last ≤ p := hla (p, d) (by simp)
                have HNL := hide (List.pairwise_cons.1 hpw).1
                have hpb : decide ((p : Int) < (last : Int)) = false := by simp; omega
                have HTS := hide hts
                have HUN := hide hun
                clear hx hts hpw hla hun
                go_wp2_with fail
                refine (un_next HUN.out).mono ?_
                rintro e w3 ⟨rfl, hfr3⟩
                have hun3 := (HUN.out.fr0 hfr3).fr0 ((Fr.refl [] w3).alloc (.cells #[nv p, nv d] 30))
                have hown3 := own_fr (own_fr HOWN.out hfr3 (fun _ _ => by simp)) ((Fr.refl [] w3).alloc (.cells #[nv p, nv d] 30)) (fun _ _ => by simp)
                have hf3 := (hfi.call hfr3).alloc (.cells #[nv p, nv d] 30)
                have HU3 := hide hun3
                have HOWN3 := hide hown3
                clear hun3 hown3 hfr3 hfi HUN
                go_wp2_with fail
                refine (un_complete 0 HU3.out).mono ?_
                rintro e w4 ⟨rfl, hun4, hfr4⟩
                rw [if_neg HCN.out] at hun4
                have hown4 := own_fr HOWN3.out hfr4 (own_apart HOWN3.out HU3.out.blk_)
                have hbx := (Blk.new w3 30 #[nv p, nv d]).fr hfr4 (fun hm => by obtain ⟨cs, hb⟩ := HU3.out.blk_; exact Blk.ne_ (Blk.new w3 30 #[nv p, nv d]) hb (by decide) (List.mem_singleton.1 hm))
                have hx0 := hbx.cell 0
                have hx1 := hbx.cell 1
                simp at hx0 hx1
                have hf4 := hf3.step hfr4 (fun g hg => .inl hg)
                have HU4 := hide hun4
                have HOWN4 := hide hown4
                have hlt4 := hbx.lt
                clear hun4 hown4 hfr4 hf3 HU3 HOWN3 hbx
                go_wp2_with (first
                  | (at_builtin
                     refine wpList_append_row _ rfl (.tmp 112) (.tmp 114) _ rfl w5.heap.size 30 i0 (.agg #[.int .i64 0, .int .i64 0]) 2 16 Try.underlying31 HI.out.1 HI.out.2.1 HI.out.2.2.1 HI.out.2.2.2 rfl (by omega) (.slice A8 i cp8) i (opCells (L.take i)) rfl
                       (own_fr HOWN4.out ((Fr.refl [] _).alloc _) (fun _ _ => by simp)) (some ⟨w4.heap.size, 0, none⟩) 1 1 [nv p, nv d] rfl rfl (row_lit _ _ _ (by simp)) (one2 p d) (by simp only [maxLen]; omega) (by omega) (by have := hf4.size; simp; omega) ?_
                     intro v1 w6 hown6 hg6 hat6))
                have hfr6 : Fr (Value.ownBlock (.slice A8 i cp8)).toList w4 w6 := ((Fr.refl _ _).alloc _).grown hg6 (fun g e => .inl (by rw [e]; simp))
                have hu6 := HU4.out.fr hfr6 (own_blocks HOWN4.out HU4.out.blk_).1 (own_blocks HOWN4.out HU4.out.blk_).2
                have hf6 : Fr [b] w5 w6 := hf4.step hfr6 (fun g hg => .inr (own_block HOWN4.out (g := g) (by simpa using hg)).1)
                go_roundg (L.length - (i + 1))
                case measure => rw [HMI.out]; omega
                case rel =>
                  refine ⟨i + 1, p, by omega, by go_num, rfl, fun x hx => HNL.out x hx, hu6, ?_, hf6, rfl⟩
                  rw [HTS.out, opCells_snoc]
                  exact hown6
              · have hie : i = L.length := by omega
                subst hie
                have hrow8 := HROW8.out
                rw [List.take_length] at hrow8
                rw [List.drop_length] at hun
                have HUN := hide hun
                clear hun HROW8
                have hlb : ((L.length : Int) != (k : Int)) = false := by simp; omega
                go_wp2_with fail
                refine (un_next0 HUN.out).mono ?_
                rintro e w3 ⟨rfl, hfr3⟩
                have hun3 := (HUN.out.fr0 hfr3).fr0 ((Fr.refl [] w3).alloc (.cells #[nv 0, nv 0] 30))
                have hf3 := (hfi.call hfr3).alloc (.cells #[nv 0, nv 0] 30)
                have hrU := (hrow8.fr0 hfr3).fr0 ((Fr.refl [] w3).alloc (.cells #[nv 0, nv 0] 30))
                have hrG := HG5.out.fr hf3 HOFF.out
                have hfw : Fr [] w (w3.alloc (.cells #[nv 0, nv 0] 30)) := hf5.call' hf3 hbw
                have HU3 := hide hun3
                have HRU := hide hrU
                have HRG := hide hrG
                clear hun3 hrU hrG hfr3 hfi HUN HG5 HOFF hrow8 hf3 hf5
                go_wp2
                generalize w3.alloc (.cells #[nv 0, nv 0] 30) = w6 at HU3 HRU HRG hfw ⊢
                go_loopg [21] k (fun m v wr => GoRel w6 k m v wr)
                case atStart => exact ⟨0, by omega, rfl, Fr.refl _ _, rfl⟩
                case round =>
                  obtain ⟨j, hj, rfl, hfj, hmm⟩ := hrel
                  have HMJ := hide hmm
                  clear hmm
                  by_cases hjl : j < k
                  · have hjb : decide ((j : Int) < (k : Int)) = true := by simp; omega
                    obtain ⟨ob, oo, hAe, hg1, hg2⟩ := pair_cells (HRG.out) (show j < G.length by omega)
                    have hmem := HMEM.out G[j] (List.getElem_mem _)
                    have hcnt := HCNT.out G[j] (List.getElem_mem _)
                    generalize G[j] = y at hg1 hg2 hmem hcnt
                    obtain ⟨q, e⟩ := y
                    simp only at hg1 hg2 hmem
                    subst hAe
                    obtain ⟨r, hr⟩ : ∃ r : Nat, r = 9 - q := ⟨_, rfl⟩
                    have hwr : IntKind.i64.wrap (9 - (q : Int)) = (r : Int) := by
                      have h1 := hmem.1
                      have h2 := hmem.2.1
                      rw [hr]
                      have h3 : q = 1 ∨ q = 2 ∨ q = 3 ∨ q = 4 := by omega
                      rcases h3 with rfl | rfl | rfl | rfl <;> decide
                    have hmr : mir (q, e) = (r, e) := by simp [mir, hr]
                    rw [hmr] at hcnt
                    have HCT := hide hcnt
                    have HMM := hide hmem
                    clear hcnt hmem hmr hr
                    go_wp2
                    go_loopg [22, 23] L.length (fun m vn v wr => CntRel w6 L (r, e) m vn v wr)
                    case atStart => exact ⟨0, by omega, rfl, by simp, hfj, rfl⟩
                    case round =>
                      obtain ⟨z, hz, rfl, rfl, hfz, hmm⟩ := hrel
                      have HMZ := hide hmm
                      clear hmm hfj
                      by_cases hzl : z < L.length
                      · have hzb : decide ((z : Int) < (L.length : Int)) = true := by simp; omega
                        obtain ⟨ob2, oo2, hAe2, hu1, hu2⟩ := pair_cells (HRU.out.fr0 hfz) hzl
                        subst hAe2
                        have hgz1 := hfz.cell hg1 (by simp)
                        have hgz2 := hfz.cell hg2 (by simp)
                        have hts : L.take (z + 1) = L.take z ++ [L[z]] := by rw [List.take_succ_eq_append_getElem hzl]
                        generalize L[z] = y at hu1 hu2 hts
                        obtain ⟨p, d⟩ := y
                        simp only at hu1 hu2
                        have hcs : (L.take (z + 1)).count (r, e) = (L.take z).count (r, e) + if p = r ∧ d = e then 1 else 0 := by
                          rw [hts, List.count_append]
                          congr 1
                          rw [List.count_singleton]
                          simp
                        have hcl : (L.take z).count (r, e) ≤ z := Nat.le_trans List.count_le_length (by rw [List.length_take]; omega)
                        generalize (L.take z).count (r, e) = n at hcs hcl
                        clear hts
                        by_cases he : p = r ∧ d = e
                        · obtain ⟨rfl, rfl⟩ := he
                          rw [if_pos ⟨rfl, rfl⟩] at hcs
                          have HCS := hide hcs
                          clear hcs
                          go_wp2
                          go_quiet (fail)
                          go_wp2
                          go_roundg (L.length - (z + 1))
                          case measure => rw [HMZ.out]; omega
                          case rel => exact ⟨z + 1, by omega, by go_num, by rw [HCS.out]; go_num, hfz.drewN _, rfl⟩
                        · rw [if_neg he] at hcs
                          have HCS := hide hcs
                          clear hcs
                          by_cases hpr : p = r
                          · subst hpr
                            have hde : ¬ d = e := fun h => he ⟨rfl, h⟩
                            clear he
                            go_wp2
                            go_quiet (fail)
                            go_wp2
                            go_roundg (L.length - (z + 1))
                            case measure => rw [HMZ.out]; omega
                            case rel => exact ⟨z + 1, by omega, by go_num, by rw [HCS.out]; rfl, hfz.drewN _, rfl⟩
                          · clear he
                            go_wp2
                            go_quiet (fail)
                            go_wp2
                            go_roundg (L.length - (z + 1))
                            case measure => rw [HMZ.out]; omega
                            case rel => exact ⟨z + 1, by omega, by go_num, by rw [HCS.out]; rfl, hfz.drewN _, rfl⟩
                      · have hzb : decide ((z : Int) < (L.length : Int)) = false := by simp; omega
                        have hze : z = L.length := by omega
                        subst hze
                        rw [List.take_length, HCT.out]
                        go_wp2
                        go_roundg (k - (j + 1))
                        case measure => rw [HMJ.out]; omega
                        case rel => exact ⟨j + 1, by omega, by go_num, hfz, rfl⟩
                  · have hjb : decide ((j : Int) < (k : Int)) = false := by simp; omega
                    have HU4 := hide (HU3.out.fr0 hfj)
                    go_wp2_with fail
                    refine (un_result0 HU4.out).mono ?_
                    rintro e w9 ⟨rfl, rfl⟩
                    have hcc := beq_iff_eq.2 HC.out
                    go_wp2_with fail
                    refine (un_asleep HU4.out).mono ?_
                    rintro e w9 ⟨rfl, rfl⟩
                    go_wp2_with fail
                    refine (awake30_any _).mono ?_
                    rintro e w10 ⟨rfl, hfr10⟩
                    go_wp2
                    go_ret
                    exact ⟨rfl, (hfw.call hfj).call hfr10⟩
end Go.Proofs.Ytgbkgiglagfciaa
