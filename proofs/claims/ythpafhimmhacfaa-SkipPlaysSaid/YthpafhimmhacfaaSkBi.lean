/- The contract of before, at its instances. -/
import Derived.Test.YthpafhimmhacfaaSkB
namespace Go.Proofs.Ythpafhimmhacfaa
open Go.RowKit
set_option linter.unusedVariables false
set_option linter.unusedSimpArgs false

theorem heap_set_list {w : World} {q : Nat} {l : List Value} {T : TypeId} (h : w.heap[q]? = some (.cells l.toArray T (0, 0))) (i : Nat) (v : Value) : (w.setCell ⟨q, i, none⟩ v).heap[q]? = some (.cells (l.set i v).toArray T (0, 0)) := by
  simp only [World.setCell, Array.getElem?_modify, if_true, h, Option.map_some]
  simp
theorem cell_list {w : World} {q i : Nat} {l : List Value} {T : TypeId} {u : Value} (h : w.heap[q]? = some (.cells l.toArray T (0, 0))) (hu : l[i]? = some u) : w.cell? ⟨q, i, none⟩ = some u ∧ w.frozen? ⟨q, i, none⟩ = false := by
  refine ⟨?_, ?_⟩
  · rw [cell_of_row _ _ _ _ _ _ h]; simpa using hu
  · simp [World.frozen?, h]
theorem bvals_set (l : List Nat) (m x : Nat) : bvals (l.set m x) = (bvals l).set m (.int .i64 (x : Nat)) := by simp [bvals]
def BefOut {κ : Type} (lt : κ → κ → Bool) (T : List (SE κ)) (k : κ) (w : World) (e : Ending) (w' : World) : Prop :=
  ∃ bs : List Nat, e = .returned (.agg (bvals bs).toArray) ∧ Found lt T k 0 bs ∧ Below w.heap.size w w'
theorem level_room {κ : Type} {NT LT : TypeId} {ek : κ → Value} {w : World} {B p : Nat} {v : Value} {T : List (SE κ)} (h : SK NT LT ek w B p v T) : ∃ h0 : 0 < T.length, T[0].ht = 12 ∧ T[0].id = 0 := by
  obtain ⟨e, S, rfl, h1, h2⟩ := h.head
  exact ⟨by simp, h2, h1⟩

set_option maxRecDepth 100000 in
set_option maxHeartbeats 4000000 in
theorem before_ii {w : World} {B p : Nat} {v : Value} {T : List (SE Int)} (h : SK 71 74 (.int .i64) w B p v T) (hr : TRise ilt T) (hl : T.length ≤ 1000000) (k : Int) :
    Calls Try.prog 43 #[.pointer (some ⟨p, 0, none⟩), .int .i64 k] w (BefOut ilt T k w) := by
  have H := Lib.hid h
  have HR := Lib.hid hr
  obtain ⟨h0, hht, hid0⟩ := level_room h
  have hpw := blk_lt h.box
  clear h hr
  go_enter Try.func43, Try.ntmps43
  go_upto_region 2 with (fail)
  refine gen_wp (fun w' => w'.heap[w.heap.size]? = some (.cells (bvals (List.replicate 12 0)).toArray 75 (0, 0)) ∧ w'.heap[w.heap.size + 1]? = some (.cells (bvals (List.replicate 12 0 ++ [])).toArray 75 (0, 0)) ∧ Below w.heap.size w w') ?_ ?_
  · refine ⟨blk_chg (heap_alloc_new w _) (Chg.of_below (F := fun _ => False) ((Below.refl _ _).alloc (Nat.le_refl _) _)) (fun h => h), ?_, ?_⟩
    · have := heap_alloc_new (w.alloc (.cells (bvals (List.replicate 12 0)).toArray 75)) (.cells (bvals (List.replicate 12 0)).toArray 75)
      rw [show (w.alloc (.cells (bvals (List.replicate 12 0)).toArray 75)).heap.size = w.heap.size + 1 by simp] at this
      exact this
    · (repeat first | exact Below.refl _ _ | refine Below.drew ?_ | refine Below.alloc ?_ (by simp <;> omega) _ | refine Below.setCell ?_ (by simp <;> omega) _)
  rintro w1 ⟨hq4, hq5, hb1⟩
  generalize hQ5 : w.heap.size + 1 = q5 at *
  have hq5w : w.heap.size < q5 := by omega
  have HQ4 := Lib.hid hq4
  have HQ5 := Lib.hid hq5
  have HB1 := Lib.hid hb1
  have HF0 : Hid (Found ilt T k 12 []) := Lib.hid ⟨rfl, fun h hh => absurd hh (by simp)⟩
  clear hq4 hq5 hb1 hQ5
  go_wp2
  go_loopw [6, 7] (fun at' hh wr => ∃ (n i : Nat) (hi : i < T.length) (bs : List Nat), n ≤ 12 ∧ hh = .int .i64 ((n : Int) - 1) ∧ at' = .int .i64 (T[i].id : Nat) ∧ (i = 0 ∨ ilt T[i].key k = true) ∧ n ≤ T[i].ht ∧ Found ilt T k n bs ∧ wr.heap[q5]? = some (.cells (bvals (List.replicate n 0 ++ bs)).toArray 75 (0, 0)) ∧ wr.heap[w.heap.size]? = some (.cells (bvals (List.replicate 12 0)).toArray 75 (0, 0)) ∧ Below w.heap.size w wr) (fun _ hh _ => ((intOf hh) + 1).toNat)
  case atStart => exact ⟨12, 0, h0, [], Nat.le_refl _, by go_num, by rw [hid0]; rfl, .inl rfl, by omega, HF0.out, HQ5.out, HQ4.out, HB1.out⟩
  case round =>
    obtain ⟨n, i, hi, bs, hn, rfl, rfl, hik, hnt, hfo, hq5, hq4, hbr⟩ := hrel
    have Hik := Lib.hid hik
    have Hfo := Lib.hid hfo
    have HQ5r := Lib.hid hq5
    have HQ4r := Lib.hid hq4
    clear hik hfo hq5 hq4 HQ4 HQ5 HB1 HF0
    cases n with
    | zero =>
      have hlen : bs.length = 12 := by have := Hfo.out.1; omega
      have hq5' : wr.heap[q5]? = some (.cells (bvals bs).toArray 75 (0, 0)) := HQ5r.out
      cases bs with
      | nil => simp at hlen
      | cons b0 bs =>
      cases bs with
      | nil => simp at hlen
      | cons b1 bs =>
      cases bs with
      | nil => simp at hlen
      | cons b2 bs =>
      cases bs with
      | nil => simp at hlen
      | cons b3 bs =>
      cases bs with
      | nil => simp at hlen
      | cons b4 bs =>
      cases bs with
      | nil => simp at hlen
      | cons b5 bs =>
      cases bs with
      | nil => simp at hlen
      | cons b6 bs =>
      cases bs with
      | nil => simp at hlen
      | cons b7 bs =>
      cases bs with
      | nil => simp at hlen
      | cons b8 bs =>
      cases bs with
      | nil => simp at hlen
      | cons b9 bs =>
      cases bs with
      | nil => simp at hlen
      | cons b10 bs =>
      cases bs with
      | nil => simp at hlen
      | cons b11 bs =>
      cases bs with
      | cons x bs => simp at hlen
      | nil =>
      clear hlen
      have c0 := (cell_list hq5' (i := 0) (u := .int .i64 (b0 : Nat)) rfl).1
      have z0 := (cell_list HQ4r.out (i := 0) (u := .int .i64 ((0 : Nat) : Int)) rfl).1
      have y0 := (cell_list HQ4r.out (i := 0) (u := .int .i64 ((0 : Nat) : Int)) rfl).2
      have c1 := (cell_list hq5' (i := 1) (u := .int .i64 (b1 : Nat)) rfl).1
      have z1 := (cell_list HQ4r.out (i := 1) (u := .int .i64 ((0 : Nat) : Int)) rfl).1
      have y1 := (cell_list HQ4r.out (i := 1) (u := .int .i64 ((0 : Nat) : Int)) rfl).2
      have c2 := (cell_list hq5' (i := 2) (u := .int .i64 (b2 : Nat)) rfl).1
      have z2 := (cell_list HQ4r.out (i := 2) (u := .int .i64 ((0 : Nat) : Int)) rfl).1
      have y2 := (cell_list HQ4r.out (i := 2) (u := .int .i64 ((0 : Nat) : Int)) rfl).2
      have c3 := (cell_list hq5' (i := 3) (u := .int .i64 (b3 : Nat)) rfl).1
      have z3 := (cell_list HQ4r.out (i := 3) (u := .int .i64 ((0 : Nat) : Int)) rfl).1
      have y3 := (cell_list HQ4r.out (i := 3) (u := .int .i64 ((0 : Nat) : Int)) rfl).2
      have c4 := (cell_list hq5' (i := 4) (u := .int .i64 (b4 : Nat)) rfl).1
      have z4 := (cell_list HQ4r.out (i := 4) (u := .int .i64 ((0 : Nat) : Int)) rfl).1
      have y4 := (cell_list HQ4r.out (i := 4) (u := .int .i64 ((0 : Nat) : Int)) rfl).2
      have c5 := (cell_list hq5' (i := 5) (u := .int .i64 (b5 : Nat)) rfl).1
      have z5 := (cell_list HQ4r.out (i := 5) (u := .int .i64 ((0 : Nat) : Int)) rfl).1
      have y5 := (cell_list HQ4r.out (i := 5) (u := .int .i64 ((0 : Nat) : Int)) rfl).2
      have c6 := (cell_list hq5' (i := 6) (u := .int .i64 (b6 : Nat)) rfl).1
      have z6 := (cell_list HQ4r.out (i := 6) (u := .int .i64 ((0 : Nat) : Int)) rfl).1
      have y6 := (cell_list HQ4r.out (i := 6) (u := .int .i64 ((0 : Nat) : Int)) rfl).2
      have c7 := (cell_list hq5' (i := 7) (u := .int .i64 (b7 : Nat)) rfl).1
      have z7 := (cell_list HQ4r.out (i := 7) (u := .int .i64 ((0 : Nat) : Int)) rfl).1
      have y7 := (cell_list HQ4r.out (i := 7) (u := .int .i64 ((0 : Nat) : Int)) rfl).2
      have c8 := (cell_list hq5' (i := 8) (u := .int .i64 (b8 : Nat)) rfl).1
      have z8 := (cell_list HQ4r.out (i := 8) (u := .int .i64 ((0 : Nat) : Int)) rfl).1
      have y8 := (cell_list HQ4r.out (i := 8) (u := .int .i64 ((0 : Nat) : Int)) rfl).2
      have c9 := (cell_list hq5' (i := 9) (u := .int .i64 (b9 : Nat)) rfl).1
      have z9 := (cell_list HQ4r.out (i := 9) (u := .int .i64 ((0 : Nat) : Int)) rfl).1
      have y9 := (cell_list HQ4r.out (i := 9) (u := .int .i64 ((0 : Nat) : Int)) rfl).2
      have c10 := (cell_list hq5' (i := 10) (u := .int .i64 (b10 : Nat)) rfl).1
      have z10 := (cell_list HQ4r.out (i := 10) (u := .int .i64 ((0 : Nat) : Int)) rfl).1
      have y10 := (cell_list HQ4r.out (i := 10) (u := .int .i64 ((0 : Nat) : Int)) rfl).2
      have c11 := (cell_list hq5' (i := 11) (u := .int .i64 (b11 : Nat)) rfl).1
      have z11 := (cell_list HQ4r.out (i := 11) (u := .int .i64 ((0 : Nat) : Int)) rfl).1
      have y11 := (cell_list HQ4r.out (i := 11) (u := .int .i64 ((0 : Nat) : Int)) rfl).2
      have hx := blk_lt HQ4r.out
      have hm1 : ((0 : Nat) : Int) - 1 = -1 := rfl
      rw [hm1]
      clear hq5'
      have hfo := Hfo.out
      go_wp2
      refine bodyPost_ret (v := .agg #[.int .i64 (b0 : Nat), .int .i64 (b1 : Nat), .int .i64 (b2 : Nat), .int .i64 (b3 : Nat), .int .i64 (b4 : Nat), .int .i64 (b5 : Nat), .int .i64 (b6 : Nat), .int .i64 (b7 : Nat), .int .i64 (b8 : Nat), .int .i64 (b9 : Nat), .int .i64 (b10 : Nat), .int .i64 (b11 : Nat)]) (by simp [results, Try.results43, go_sem, z0, z1, z2, z3, z4, z5, z6, z7, z8, z9, z10, z11]) rfl ⟨[b0, b1, b2, b3, b4, b5, b6, b7, b8, b9, b10, b11], rfl, hfo, ?_⟩
      exact ((((((((((((hbr).setCell (p := ⟨w.heap.size, 0, none⟩) (Nat.le_refl _) _).setCell (p := ⟨w.heap.size, 1, none⟩) (Nat.le_refl _) _).setCell (p := ⟨w.heap.size, 2, none⟩) (Nat.le_refl _) _).setCell (p := ⟨w.heap.size, 3, none⟩) (Nat.le_refl _) _).setCell (p := ⟨w.heap.size, 4, none⟩) (Nat.le_refl _) _).setCell (p := ⟨w.heap.size, 5, none⟩) (Nat.le_refl _) _).setCell (p := ⟨w.heap.size, 6, none⟩) (Nat.le_refl _) _).setCell (p := ⟨w.heap.size, 7, none⟩) (Nat.le_refl _) _).setCell (p := ⟨w.heap.size, 8, none⟩) (Nat.le_refl _) _).setCell (p := ⟨w.heap.size, 9, none⟩) (Nat.le_refl _) _).setCell (p := ⟨w.heap.size, 10, none⟩) (Nat.le_refl _) _).setCell (p := ⟨w.heap.size, 11, none⟩) (Nat.le_refl _) _
    | succ m =>
      rw [show ((m + 1 : Nat) : Int) - 1 = (m : Int) by omega]
      have Hn := Lib.hid hnt
      obtain ⟨g, cv, hv, hc1, hc2, hid, k0, d0, d1, d2, dn⟩ := (H.out.below hbr).node i hi
      have hd := dn m (by omega)
      unfold maxLen at hc2
      have hm0 : (0 : Int) ≤ (m : Int) := by omega
      have hmI : (m : Int) < (T[i].ht : Int) := by omega
      clear dn d0 d1
      generalize hwR : wr = wR at *
      go_upto_region 7 with (fail)
      have HB := Lib.hid hbr
      clear hd d2 k0
      go_loopg [6, 8] (T.length - i) (fun gk at' nn wx => ∃ (i : Nat) (hi : i < T.length), T.length - i = gk ∧ at' = .int .i64 (T[i].id : Nat) ∧ nn = .int .i64 (fid (T.drop (i + 1)) m : Nat) ∧ (i = 0 ∨ ilt T[i].key k = true) ∧ m < T[i].ht ∧ wR = wx)
      case atStart => exact ⟨i, hi, rfl, rfl, rfl, Hik.out, by have := Hn.out; omega, rfl⟩
      case round =>
        clear hid hmI Hn hnt
        obtain ⟨i2, hi2, rfl, rfl, hnn, hik2, hmt, rfl⟩ := hrel
        have Hik2 := Lib.hid hik2
        have hfin : Hid (∀ (hP : PredAt' ilt T k m i2), Found ilt T k m (T[i2].id :: bs)) := Lib.hid fun hP => Hfo.out.cons hi2 hP
        have hst : (List.replicate (m + 1) 0 ++ bs).set m T[i2].id = List.replicate m 0 ++ T[i2].id :: bs := by
          rw [List.replicate_succ']
          simp [List.set_append]
        have Hst := Lib.hid hst
        have hq5m : (bvals (List.replicate (m + 1) 0 ++ bs))[m]? = some (.int .i64 0) := by
          unfold bvals
          rw [List.getElem?_map, List.getElem?_append_left (by simp), List.getElem?_replicate_of_lt (by omega)]; rfl
        obtain ⟨q50, q51⟩ := cell_list HQ5r.out hq5m
        clear hik2 hst hq5m
        rcases next_cases T i2 m hi2 with ⟨j, hj, hij, hmj, hfid, hbet⟩ | ⟨hfid, hall⟩
        · rw [hfid] at hnn
          subst hnn
          have hne : T[j].id ≠ 0 := fun e => by
            have := H.out.ids 0 j h0 hj (by rw [hid0, e])
            omega
          obtain ⟨g, cv, hv, hc1, hc2, hid, k0, d0, d1, d2, dn⟩ := (H.out.below HB.out).node j hj
          have hd := dn m hmj
          unfold maxLen at hc2
          have Hbet := Lib.hid hbet
          have hne1 : ((T[j].id : Int) != 0) = true := by rw [bne_iff_ne]; omega
          have hne2 : ((T[j].id : Int) == 0) = false := by rw [beq_eq_false_iff_ne]; omega
          have hmI : (m : Int) < (T[j].ht : Int) := by omega
          have Hmj := Lib.hid hmj
          have Hmt := Lib.hid hmt
          clear dn hbet hne hfid
          cases hkj : ilt T[j].key k with
          | true =>
            have hlt : T[j].key < k := by unfold ilt at hkj; simpa using hkj
            have Hkj := Lib.hid hkj
            clear hkj
            go_wp2
            go_roundg (T.length - j)
            case measure => omega
            case rel => exact ⟨j, hj, rfl, rfl, rfl, .inr Hkj.out, Hmj.out, rfl⟩
          | false =>
            have hlt : ¬ T[j].key < k := by unfold ilt at hkj; simpa using hkj
            have hP := hfin.out (predAt_end ilt_ord HR.out hi2 hmt Hik2.out (.inl ⟨j, hj, hij, hkj, Hbet.out⟩))
            have HP := Lib.hid hP
            have hltI : k ≤ T[j].key := by omega
            clear hkj hP
            go_wp2
            go_roundw
            case rel => exact ⟨m, i2, hi2, T[i2].id :: bs, by omega, by go_num, rfl, Hik2.out, by omega, HP.out, by rw [← Hst.out, bvals_set]; exact heap_set_list HQ5r.out m _, blk_chg HQ4r.out (Chg.set wR q5 m _) (by omega), HB.out.setCell (p := ⟨q5, m, none⟩) (Nat.le_of_lt hq5w) _⟩
            case measure => simp [intOf]
        · rw [hfid] at hnn
          subst hnn
          have hP := hfin.out (predAt_end ilt_ord HR.out hi2 hmt Hik2.out (.inr hall))
          have HP := Lib.hid hP
          have Hmt := Lib.hid hmt
          clear hall hfid hP
          go_wp2
          go_roundw
          case rel => exact ⟨m, i2, hi2, T[i2].id :: bs, by omega, by go_num, rfl, Hik2.out, by omega, HP.out, by rw [← Hst.out, bvals_set]; exact heap_set_list HQ5r.out m _, blk_chg HQ4r.out (Chg.set wR q5 m _) (by omega), HB.out.setCell (p := ⟨q5, m, none⟩) (Nat.le_of_lt hq5w) _⟩
          case measure => simp [intOf]
end Go.Proofs.Ythpafhimmhacfaa
