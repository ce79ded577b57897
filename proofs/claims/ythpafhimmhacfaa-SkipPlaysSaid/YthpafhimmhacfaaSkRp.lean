/- The document's list of chapter 05: Put. -/
import Derived.Test.YthpafhimmhacfaaSkRf
namespace Go.Proofs.Ythpafhimmhacfaa
open Go.RowKit
set_option linter.unusedVariables false
set_option linter.unusedSimpArgs false

/-- what is laid of the first i -/
def outL (L : List (E3 Int Int)) (c : Nat) (x : E3 Int Int) (i : Nat) : List (E3 Int Int) := if i ≤ c then L.take i else L.take c ++ x :: (L.take i).drop c
theorem outL_low {L : List (E3 Int Int)} {c : Nat} {x : E3 Int Int} {i : Nat} (h : i ≤ c) : outL L c x i = L.take i := if_pos h
theorem outL_high {L : List (E3 Int Int)} {c : Nat} {x : E3 Int Int} {i : Nat} (h : c < i) : outL L c x i = L.take c ++ x :: (L.take i).drop c := if_neg (by omega)
theorem outL_step {L : List (E3 Int Int)} {c : Nat} {x : E3 Int Int} {i : Nat} (hi : i < L.length) (h : i ≠ c) (hc : c ≤ L.length) : outL L c x (i + 1) = outL L c x i ++ [L[i]] := by
  rcases Nat.lt_or_ge i c with h1 | h1
  · rw [outL_low (by omega), outL_low (by omega), List.take_succ_eq_append_getElem hi]
  · rw [outL_high (by omega), outL_high (by omega), List.take_succ_eq_append_getElem hi, List.drop_append_of_le_length (by rw [List.length_take]; omega)]
    simp
theorem outL_at {L : List (E3 Int Int)} {c : Nat} {x : E3 Int Int} (hc : c < L.length) : outL L c x (c + 1) = (outL L c x c ++ [x]) ++ [L[c]] := by
  rw [outL_high (by omega), outL_low (Nat.le_refl _), List.take_succ_eq_append_getElem hc, List.drop_append_of_le_length (by rw [List.length_take]; omega), List.drop_of_length_le (by rw [List.length_take]; omega)]
  simp
theorem outL_len {L : List (E3 Int Int)} {c : Nat} {x : E3 Int Int} {i : Nat} (hi : i ≤ L.length) : (outL L c x i).length = if i ≤ c then i else i + 1 := by
  by_cases h : i ≤ c
  · rw [outL_low h, if_pos h, List.length_take]; omega
  · rw [outL_high (by omega), if_neg h]
    simp only [List.length_append, List.length_cons, List.length_take, List.length_drop]; omega
theorem pairInfo : (Try.prog.info? 63).map (fun i => (i.zero, i.size, i.bytes)) = some (some (.agg #[.int .i64 0, .int .i64 0, .int .i64 0]), 3, 24) := by kernel_rfl
theorem prow_one (x : E3 Int Int) : prow [x] = [.int .i64 x.k, .int .i64 x.v, .int .i64 (x.h : Nat)] := rfl
theorem row_snoc {w : World} {B : Nat} {u : Value} {n : Nat} {A : List (E3 Int Int)} {x : E3 Int Int} (hn : n = A.length) (h : w.ownsRow B 63 3 u (n + 1) (prow A ++ [.int .i64 x.k, .int .i64 x.v, .int .i64 (x.h : Nat)])) :
    w.ownsRow B 63 3 u (A ++ [x]).length (prow (A ++ [x])) := by
  rw [prow_append, prow_one, List.length_append, List.length_singleton, ← hn]; exact h
/-- behind an append to what is laid -/
theorem out_next {w wr w2 : World} {B q n c al : Nat} {g : Nat} {u v2 : Value} {L A : List (E3 Int Int)} {x : E3 Int Int} (H : RfL w B q (.slice (some ⟨g, 0, none⟩) n c) L) (hbr : Below w.heap.size w wr) (hAl : A.length = al) (hrow : wr.ownsRow w.heap.size 63 3 u al (prow A))
    (ho : w2.ownsRow w.heap.size 63 3 v2 (al + 1) (prow A ++ [.int .i64 x.k, .int .i64 x.v, .int .i64 (x.h : Nat)])) (ha : App wr w2 u v2) :
    ∃ a2 c2, v2 = .slice a2 (al + 1) c2 ∧ w2.ownsRow w.heap.size 63 3 (.slice a2 (al + 1) c2) (al + 1) (prow (A ++ [x])) ∧ (A ++ [x]).length = al + 1 ∧ Below w.heap.size w w2 ∧ w.heap.size ≤ w2.heap.size ∧ w2.cell? ⟨q, 0, none⟩ = some (.slice (some ⟨g, 0, none⟩) n c) ∧
      ∀ j (hj : j < L.length), w2.cell? ⟨g, j * 3, none⟩ = some (.int .i64 L[j].k) ∧ w2.cell? ⟨g, j * 3 + 1, none⟩ = some (.int .i64 L[j].v) ∧ w2.cell? ⟨g, j * 3 + 2, none⟩ = some (.int .i64 (L[j].h : Nat)) := by
  have hz := hbr.size
  have hb2 : Below w.heap.size w w2 := hbr.trans ((Chg.of_app ha).below (fun q hq => (World.ownsRow.lt hrow q hq).1) hz)
  have hlen : (A ++ [x]).length = al + 1 := by rw [List.length_append, hAl]; rfl
  have hr2 := row_snoc hAl.symm ho
  rw [hlen] at hr2
  obtain ⟨a2, c2, rfl, _⟩ := row_shape ho
  have H2 := H.below hb2
  refine ⟨a2, c2, rfl, hr2, hlen, hb2, hb2.size, (cell_one H2.box).1, fun j hj => ?_⟩
  obtain ⟨g', e, d0, d1, d2⟩ := H2.cells j hj
  cases e
  exact ⟨d0, d1, d2⟩
theorem out_close {w wr : World} {B q : Nat} {sv v : Value} {L A : List (E3 Int Int)} (H : RfL w B q sv L) (hbr : Below w.heap.size w wr) (hrow : wr.ownsRow w.heap.size 63 3 v A.length (prow A)) :
    RfL (wr.setCell ⟨q, 0, none⟩ v) B q v A ∧ Chg (Gq q sv) w (wr.setCell ⟨q, 0, none⟩ v) ∧ (∀ x, Gq q v x → Gq q sv x ∨ w.heap.size ≤ x) := by
  have hq := blk_lt H.box
  have hB := H.low
  have hbox := (hbr.block q hq).trans H.box
  have hne : v.ownBlock ≠ some q := fun e => by have := (World.ownsRow.lt hrow q e).1; omega
  refine ⟨⟨?_, ?_, hB, hne⟩, ?_, ?_⟩
  · exact heap_set_list (l := [sv]) hbox 0 v
  · exact row_mono (row_same hrow fun k hk => (Chg.set wr q 0 v).block k (World.ownsRow.lt hrow k hk).2 (fun e => hne (by rw [← e]; exact hk))) (by omega)
  · exact (Chg.of_below hbr).trans2 (Chg.set wr q 0 v) fun i _ e => .inl e
  · rintro x (rfl | e)
    · exact .inl (.inl rfl)
    · exact .inr (World.ownsRow.lt hrow x e).1
set_option maxRecDepth 100000 in
set_option maxHeartbeats 4000000 in
theorem rput {w : World} {B q : Nat} {sv : Value} {L : List (E3 Int Int)} (h : RfL w B q sv L) (hr : ERise ilt L) (hl : L.length ≤ 9999) (k y : Int) (ht : Nat) :
    Calls Try.prog 34 #[.pointer (some ⟨q, 0, none⟩), .int .i64 k, .int .i64 y, .int .i64 (ht : Nat)] w fun e w' => e = .returned (.bool (!hI L k)) ∧
      ∃ sv', RfL w' B q sv' (putE ilt L k y ht) ∧ Chg (Gq q sv) w w' ∧ (∀ x, Gq q sv' x → Gq q sv x ∨ w.heap.size ≤ x) := by
  have Hfi := Lib.hid (rfind h hr hl k)
  obtain ⟨ao, c, rfl, h1, h2, h0⟩ := h.shape
  have H := Lib.hid h
  have HR := Lib.hid hr
  have hqw := blk_lt h.box
  unfold maxLen at h2
  cases hh : hI L k with
  | true =>
    obtain ⟨hc, hk, hg, _⟩ := has_tells hh
    rw [hg, plE_at hc] at Hfi
    obtain ⟨g, rfl, d0, d1, d2⟩ := h.cells _ hc
    have hfz : w.frozen? ⟨g, cI L k * 3 + 1, none⟩ = false := World.ownsRow.frozenAt h.row _
    have hrow := (World.ownsRow.stored h.row (cI L k * 3 + 1) (.int .i64 y)).1
    rw [prow_set L _ hc y] at hrow
    have hpe : putE ilt L k y ht = L.modify (cI L k) (setE y) := putE_has hh y ht
    have hpl : (L.modify (cI L k) (setE y)).length = L.length := List.length_modify ..
    have hgq : g ≠ q := fun e => h.apart (by rw [e]; rfl)
    have hres : RfL (w.setCell ⟨g, cI L k * 3 + 1, none⟩ (.int .i64 y)) B q (.slice (some ⟨g, 0, none⟩) L.length c) (putE ilt L k y ht) := by
      rw [hpe]
      exact ⟨blk_chg h.box (Chg.set w g _ _) (fun e => hgq e.symm), by rw [hpl]; exact hrow, h.low, h.apart⟩
    have HRes := Lib.hid hres
    have HC : Hid (Chg (Gq q (.slice (some ⟨g, 0, none⟩) L.length c)) w (w.setCell ⟨g, cI L k * 3 + 1, none⟩ (.int .i64 y))) := Lib.hid ((Chg.set w g _ _).mono fun x hx => .inr (by rw [hx]; rfl))
    clear hrow hpe hpl hgq hres h hr hg hk d0 d2 hh
    generalize cI L k = n at *
    go_enter Try.func34, Try.ntmps34
    go_wp2_with fail; (with_reducible refine (Hfi.out).mono ?_); rintro e w1 ⟨rfl, rfl⟩
    go_wp2
    go_ret
    exact ⟨rfl, _, HRes.out, HC.out, fun x hx => .inl hx⟩
  | false =>
    have hge : getE L k = L.length := if_neg (by rw [hh]; simp)
    rw [hge, plE_no (Nat.le_refl _)] at Hfi
    have hpe : putE ilt L k y ht = L.take (cI L k) ++ ⟨k, y, ht⟩ :: L.drop (cI L k) := putE_no hh y ht
    have hcl : cI L k ≤ L.length := cutE_le ilt k L
    have hlo : ∀ j (hj : j < L.length), j < cI L k → L[j].k < k := fun j hj h => of_decide_eq_true (cutE_below (lt := ilt) k L j hj h)
    have hhi : ∀ j (hj : j < L.length), j = cI L k → k < L[j].k := fun j hj h => by
      have h1 : ¬ L[j].k < k := of_decide_eq_false (cutE_above ilt_ord k L hr j hj (by rw [h]; exact Nat.le_refl _))
      have h2 : L[j].k ≠ k := fun e => by
        have h3 := (hasE_mem ilt_ord hr k).2 (List.mem_map.2 ⟨_, List.getElem_mem hj, e⟩)
        rw [show hasE L (cutE ilt k L) k = false from hh] at h3; cases h3
      omega
    have HPE := Lib.hid hpe
    have HLO := Lib.hid hlo
    have HHI := Lib.hid hhi
    generalize cI L k = n at *
    obtain ⟨i0, hi, hz0, hz1, hz2⟩ := info_parts pairInfo
    have Hi := Lib.hid hi
    have Hz0 := Lib.hid hz0
    have Hz3 := Lib.hid hz1
    have Hzb := Lib.hid hz2
    clear hi hz0 hz1 hz2 hpe hlo hhi hge h hr hh h0
    generalize hX : (⟨k, y, ht⟩ : E3 Int Int) = x at *
    have HX : Hid (x.k = k ∧ x.v = y ∧ x.h = ht) := Lib.hid (by subst hX; exact ⟨rfl, rfl, rfl⟩)
    clear hX
    go_enter Try.func34, Try.ntmps34
    go_wp2_with fail; (with_reducible refine (Hfi.out).mono ?_); rintro e w1 ⟨rfl, rfl⟩
    go_wp2
    go_loopw [10, 11, 12] (fun u pu i wr => ∃ j : Nat, j ≤ L.length ∧ i = .int .i64 j ∧ pu = .bool (decide (n < j)) ∧ wr.ownsRow w.heap.size 63 3 u (outL L n x j).length (prow (outL L n x j)) ∧ Below w.heap.size w wr) (fun _ _ i _ => L.length - (intOf i).toNat)
    case atStart => exact ⟨0, Nat.zero_le _, rfl, rfl, by rw [outL_low (Nat.zero_le _)]; exact World.ownsRow_nil _ _ _ _, Below.refl _ _⟩
    case round =>
      obtain ⟨j, hj, rfl, rfl, hrow, hbr⟩ := hrel
      have HRow := Lib.hid hrow
      have hol : (outL L n x j).length ≤ L.length + 1 := by rw [outL_len (c := n) (x := x) hj]; split <;> omega
      have hz := hbr.size
      have hRf := H.out.below hbr
      have h0 := hRf.shape
      obtain ⟨ao2, c2, e2, _, _, b0⟩ := h0
      cases e2
      have HRf := Lib.hid hRf
      clear hrow
      by_cases hlt : j < L.length
      · have htk := fun hne hcl => outL_step (c := n) (x := x) hlt hne hcl
        have hat := fun e : j = n => outL_at (c := n) (x := x) (L := L) (by omega)
        have HTK := Lib.hid htk
        have HAT := Lib.hid hat
        have hlo := HLO.out j hlt
        have hhi := HHI.out j hlt
        obtain ⟨g, rfl, d0, d1, d2⟩ := hRf.cells j hlt
        clear htk hat hRf
        generalize hEl : L[j] = E at *
        rcases Nat.lt_trichotomy j n with hjn | hjn | hjn
        · have hlt2 : E.k ≤ k := Int.le_of_lt (hlo hjn)
          rw [show decide (n < j) = false from decide_eq_false (by omega)]
          have Hnx : Hid (outL L n x (j + 1) = outL L n x j ++ [E]) := Lib.hid (HTK.out (by omega) hcl)
          have hd : Hid (decide (n < j + 1) = false) := Lib.hid (decide_eq_false (by omega))
          generalize outL L n x j = A at *
          generalize hAl : A.length = al at *
          have HAl := Lib.hid hAl
          clear hlo hhi hEl hAl
          go_wp2_with (at_builtin; go_loud (refine wpList_appN rfl (.tmp 56) (.tmp 64) 57 63 i0 (.agg #[.int .i64 0, .int .i64 0, .int .i64 0]) 3 24 Try.underlying57 Hi.out Hz0.out Hz3.out Hzb.out rfl (by decide) rfl w.heap.size u10 al (prow A) rfl HRow.out #[.int .i64 E.k, .int .i64 E.v, .int .i64 (E.h : Nat)] 1 1 (by first | rfl | (simp; done) | (simp; rfl)) rfl (by intro u hu; simp at hu; rcases hu with rfl | rfl | rfl <;> rfl) (by unfold maxLen; omega) (by omega) (by first | exact hz | (simp; omega)) ?_); intro v2 w2 ho2 hold2 ha2)
          go_roundw
          case rel => exact ⟨j + 1, by omega, by go_num, by rw [hd.out], by rw [Hnx.out]; exact row_snoc HAl.out.symm ho2, hbr.trans ((Chg.of_app ha2).below (fun q hq => (World.ownsRow.lt HRow.out q hq).1) hz)⟩
          case measure => simp [intOf]; omega
        · have hlt2 : k < E.k := hhi hjn
          have hx := HX.out
          rw [show decide (n < j) = false from decide_eq_false (by omega)]
          have Hnx : Hid (outL L n x (j + 1) = (outL L n x j ++ [x]) ++ [E]) := Lib.hid (by
            have := HAT.out hjn
            subst hjn
            rw [this, hEl])
          have hd : Hid (decide (n < j + 1) = true) := Lib.hid (decide_eq_true (by omega))
          generalize outL L n x j = A at *
          generalize hAl : A.length = al at *
          have HAl := Lib.hid hAl
          have HX2 := Lib.hid hx
          have hEl' := hEl
          clear hlo hhi hEl hAl hx hjn
          have hEc : Hid (∀ j' (hj' : j' < L.length), j' = j → L[j'] = E) := Lib.hid (by intro j' hj' e; subst e; exact hEl')
          have HXk : Hid (∀ (u v2 : Value) (w2 : World), App wr w2 u10 v2 → w2.ownsRow w.heap.size 63 3 v2 (al + 1) (prow A ++ [.int .i64 k, .int .i64 y, .int .i64 (ht : Nat)]) → ∃ a2 c2, v2 = .slice a2 (al + 1) c2 ∧ w2.ownsRow w.heap.size 63 3 (.slice a2 (al + 1) c2) (al + 1) (prow (A ++ [x])) ∧ (A ++ [x]).length = al + 1 ∧ Below w.heap.size w w2 ∧ w.heap.size ≤ w2.heap.size ∧ w2.cell? ⟨q, 0, none⟩ = some (.slice (some ⟨g, 0, none⟩) L.length c) ∧
              (w2.cell? ⟨g, j * 3, none⟩ = some (.int .i64 E.k) ∧ w2.cell? ⟨g, j * 3 + 1, none⟩ = some (.int .i64 E.v) ∧ w2.cell? ⟨g, j * 3 + 2, none⟩ = some (.int .i64 (E.h : Nat)))) := Lib.hid fun _ v2 w2 ha ho => by
            obtain ⟨e1, e2, e3⟩ := HX2.out
            rw [← e1, ← e2, ← e3] at ho
            obtain ⟨a2, c2, r1, r2, r3, r4, r5, r6, r7⟩ := out_next H.out hbr HAl.out HRow.out ho ha
            have r8 := r7 j hlt
            rw [hEc.out j hlt rfl] at r8
            exact ⟨a2, c2, r1, r2, r3, r4, r5, r6, r8⟩
          clear hEl'
          go_wp2_with (first
            | (at_builtin; go_loud (refine wpList_appN rfl (.tmp 49) (.tmp 54) 57 63 i0 (.agg #[.int .i64 0, .int .i64 0, .int .i64 0]) 3 24 Try.underlying57 Hi.out Hz0.out Hz3.out Hzb.out rfl (by decide) rfl w.heap.size u10 al (prow A) rfl HRow.out #[.int .i64 k, .int .i64 y, .int .i64 (ht : Nat)] 1 1 (by first | rfl | (simp; done) | (simp; rfl)) rfl (by intro u hu; simp at hu; rcases hu with rfl | rfl | rfl <;> rfl) (by unfold maxLen; omega) (by omega) (by first | exact hz | (simp; omega)) ?_); intro v2 w2 ho2 hold2 ha2; obtain ⟨a2, c2, rfl, r2, r3, r4, r5, r6, r7, r8, r9⟩ := HXk.out u10 v2 w2 ha2 ho2; have HR2 := Lib.hid r2; have HR3 := Lib.hid r3; have HR4 := Lib.hid r4; clear r2 r3 r4 ho2 hold2 ha2)
            | (at_builtin; go_loud (refine wpList_appN rfl (.tmp 56) (.tmp 64) 57 63 i0 (.agg #[.int .i64 0, .int .i64 0, .int .i64 0]) 3 24 Try.underlying57 Hi.out Hz0.out Hz3.out Hzb.out rfl (by decide) rfl w.heap.size _ (al + 1) (prow (A ++ [x])) rfl HR2.out #[.int .i64 E.k, .int .i64 E.v, .int .i64 (E.h : Nat)] 1 1 (by first | rfl | (simp; done) | (simp; rfl)) rfl (by intro u hu; simp at hu; rcases hu with rfl | rfl | rfl <;> rfl) (by unfold maxLen; omega) (by omega) (by first | exact r5 | (simp; omega)) ?_); intro v3 w3 ho3 hold3 ha3))
          go_roundw
          case rel => exact ⟨j + 1, by omega, by go_num, by rw [hd.out], by rw [Hnx.out]; exact row_snoc HR3.out.symm ho3, HR4.out.trans ((Chg.of_app ha3).below (fun q hq => (World.ownsRow.lt HR2.out q hq).1) r5)⟩
          case measure => simp [intOf]; omega
        · have Hnx : Hid (outL L n x (j + 1) = outL L n x j ++ [E]) := Lib.hid (HTK.out (by omega) hcl)
          rw [show decide (n < j) = true from decide_eq_true hjn]
          have hd : Hid (decide (n < j + 1) = true) := Lib.hid (decide_eq_true (by omega))
          generalize outL L n x j = A at *
          generalize hAl : A.length = al at *
          have HAl := Lib.hid hAl
          clear hlo hhi hEl hAl
          go_wp2_with (at_builtin; go_loud (refine wpList_appN rfl (.tmp 56) (.tmp 64) 57 63 i0 (.agg #[.int .i64 0, .int .i64 0, .int .i64 0]) 3 24 Try.underlying57 Hi.out Hz0.out Hz3.out Hzb.out rfl (by decide) rfl w.heap.size u10 al (prow A) rfl HRow.out #[.int .i64 E.k, .int .i64 E.v, .int .i64 (E.h : Nat)] 1 1 (by first | rfl | (simp; done) | (simp; rfl)) rfl (by intro u hu; simp at hu; rcases hu with rfl | rfl | rfl <;> rfl) (by unfold maxLen; omega) (by omega) (by first | exact hz | (simp; omega)) ?_); intro v2 w2 ho2 hold2 ha2)
          go_roundw
          case rel => exact ⟨j + 1, by omega, by go_num, by rw [hd.out], by rw [Hnx.out]; exact row_snoc HAl.out.symm ho2, hbr.trans ((Chg.of_app ha2).below (fun q hq => (World.ownsRow.lt HRow.out q hq).1) hz)⟩
          case measure => simp [intOf]; omega
      · have hjl : j = L.length := by omega
        have HBR := Lib.hid hbr
        have hx := HX.out
        have HX2 := Lib.hid hx
        obtain ⟨hq1, hq2⟩ : q < wr.heap.size ∧ w.heap.size ≤ wr.heap.size := ⟨Nat.lt_of_lt_of_le hqw hbr.size, hbr.size⟩
        rcases Nat.lt_or_ge n L.length with hnl | hnl
        · have Ho : Hid (outL L n x j = putE ilt L k y ht) := Lib.hid (by rw [hjl, outL_high hnl, HPE.out, List.take_of_length_le (Nat.le_refl _)])
          rw [show decide (n < j) = true from decide_eq_true (by omega)]
          rw [Ho.out] at HRow
          clear hx
          have HE := Lib.hid (out_close H.out HBR.out HRow.out)
          obtain ⟨ao4, c4, hu4, _⟩ := row_shape HRow.out
          subst hu4
          have hf0 : wr.frozen? ⟨q, 0, none⟩ = false := (cell_one HRf.out.box).2
          clear hjl hnl hol
          generalize (putE ilt L k y ht).length = pl at *
          go_wp2
          go_ret
          exact ⟨rfl, _, HE.out.1, HE.out.2.1, HE.out.2.2⟩
        · have hnL : n = L.length := by omega
          have Ho : Hid (outL L n x j = L) := Lib.hid (by rw [hjl, outL_low hnl, List.take_of_length_le (Nat.le_refl _)])
          have Hp : Hid (putE ilt L k y ht = L ++ [x]) := Lib.hid (by rw [HPE.out, hnL, List.take_of_length_le (Nat.le_refl _), List.drop_of_length_le (Nat.le_refl _)])
          rw [show decide (n < j) = false from decide_eq_false (by omega)]
          rw [Ho.out] at HRow
          clear hjl hnl hol hx hnL
          have hf0 : wr.frozen? ⟨q, 0, none⟩ = false := (cell_one HRf.out.box).2
          go_wp2_with (at_builtin; go_loud (refine wpList_appN rfl (.tmp 68) (.tmp 73) 57 63 i0 (.agg #[.int .i64 0, .int .i64 0, .int .i64 0]) 3 24 Try.underlying57 Hi.out Hz0.out Hz3.out Hzb.out rfl (by decide) rfl w.heap.size u10 L.length (prow L) rfl HRow.out #[.int .i64 k, .int .i64 y, .int .i64 (ht : Nat)] 1 1 (by first | rfl | (simp; done) | (simp; rfl)) rfl (by intro u hu; simp at hu; rcases hu with rfl | rfl | rfl <;> rfl) (by unfold maxLen; omega) (by omega) (by first | exact hq2 | (simp; omega)) ?_); intro v2 w2 ho2 hold2 ha2; obtain ⟨e1, e2, e3⟩ := HX2.out; rw [← e1, ← e2, ← e3] at ho2; have hr5 := row_snoc (x := x) rfl ho2; have hb5 : Below w.heap.size w w2 := HBR.out.trans ((Chg.of_app ha2).below (fun q hq => (World.ownsRow.lt HRow.out q hq).1) hq2); have HE := Lib.hid (out_close H.out hb5 hr5); obtain ⟨a5, c5, hv5, _⟩ := row_shape ho2; subst hv5; have hc5 := (cell_one (H.out.below hb5).box).1; have hf5 : w2.frozen? ⟨q, 0, none⟩ = false := (cell_one (H.out.below hb5).box).2; have hq5 : q < w2.heap.size := Nat.lt_of_lt_of_le hqw hb5.size; clear hr5 hb5 ho2 hold2 ha2 e1 e2 e3)
          go_ret
          exact ⟨rfl, _, by rw [Hp.out]; exact HE.out.1, HE.out.2.1, HE.out.2.2⟩
end Go.Proofs.Ythpafhimmhacfaa
