/- The list at [string, string], part 1 (printed by inst.py). -/
import Derived.Test.YtcbkjhbneigkaaaYJa
import Derived.Test.YtcbkjhbneigkaaaYJa
import Derived.Test.YtcbkjhbneigkaaaYJa
import Derived.Test.YtcbkjhbneigkaaaYJa
import Derived.Test.YtcbkjhbneigkaaaYJa
import Derived.Test.YtcbkjhbneigkaaaYJa
namespace Go.Proofs.Ytcbkjhbneigkaaa.ss
open Go.RowKit
set_option linter.unusedVariables false
set_option linter.unusedSimpArgs false
set_option linter.unusedSectionVars false
set_option maxRecDepth 100000 in
set_option maxHeartbeats 4000000 in
theorem before_ii {w : World} {B p : Nat} {v : Value} {T : List (SE ByteArray)} (h : SK 91 94 (.string) w B p v T) (hr : TRise blt T) (hl : T.length ≤ 1000000) (k : ByteArray) :
    Calls Try.prog 47 #[.pointer (some ⟨p, 0, none⟩), .string k] w (BefOut blt T k w) := by
  have H := Lib.hid h
  have HR := Lib.hid hr
  obtain ⟨h0, hht, hid0⟩ := level_room h
  have hpw := blk_lt h.box
  clear h hr
  go_enter Try.func47, Try.ntmps47
  go_upto_region 2 with (fail)
  refine gen_wp (fun w' => w'.heap[w.heap.size]? = some (.cells (bvals (List.replicate 12 0)).toArray 98 (0, 0)) ∧ w'.heap[w.heap.size + 1]? = some (.cells (bvals (List.replicate 12 0 ++ [])).toArray 98 (0, 0)) ∧ Below w.heap.size w w') ?_ ?_
  · refine ⟨blk_chg (heap_alloc_new w _) (Chg.of_below (F := fun _ => False) ((Below.refl _ _).alloc (Nat.le_refl _) _)) (fun h => h), ?_, ?_⟩
    · have := heap_alloc_new (w.alloc (.cells (bvals (List.replicate 12 0)).toArray 98)) (.cells (bvals (List.replicate 12 0)).toArray 98)
      rw [show (w.alloc (.cells (bvals (List.replicate 12 0)).toArray 98)).heap.size = w.heap.size + 1 by simp] at this
      exact this
    · (repeat first | exact Below.refl _ _ | refine Below.drew ?_ | refine Below.alloc ?_ (by simp <;> omega) _ | refine Below.setCell ?_ (by simp <;> omega) _)
  rintro w1 ⟨hq4, hq5, hb1⟩
  generalize hQ5 : w.heap.size + 1 = q5 at *
  have hq5w : w.heap.size < q5 := by omega
  have HQ4 := Lib.hid hq4
  have HQ5 := Lib.hid hq5
  have HB1 := Lib.hid hb1
  have HF0 : Hid (Found blt T k 12 []) := Lib.hid ⟨rfl, fun h hh => absurd hh (by simp)⟩
  clear hq4 hq5 hb1 hQ5
  go_wp2
  go_loopw [6, 7] (fun at' hh wr => ∃ (n i : Nat) (hi : i < T.length) (bs : List Nat), n ≤ 12 ∧ hh = .int .i64 ((n : Int) - 1) ∧ at' = .int .i64 (T[i].id : Nat) ∧ (i = 0 ∨ blt T[i].key k = true) ∧ n ≤ T[i].ht ∧ Found blt T k n bs ∧ wr.heap[q5]? = some (.cells (bvals (List.replicate n 0 ++ bs)).toArray 98 (0, 0)) ∧ wr.heap[w.heap.size]? = some (.cells (bvals (List.replicate 12 0)).toArray 98 (0, 0)) ∧ Below w.heap.size w wr) (fun _ hh _ => ((intOf hh) + 1).toNat)
  case atStart => exact ⟨12, 0, h0, [], Nat.le_refl _, by go_num, by rw [hid0]; rfl, .inl rfl, by omega, HF0.out, HQ5.out, HQ4.out, HB1.out⟩
  case round =>
    obtain ⟨n, i, hi, bs, hn, rfl, rfl, hik, hnt, hfo, hq5, hq4, hbr⟩ := hrel
    have Hik := Lib.hid hik
    have Hfo := Lib.hid hfo
    have HQ5r := Lib.hid hq5
    have HQ4r := Lib.hid hq4
    clear hik hfo hq5 hq4 HQ4 HQ5 HB1 HF0
    cases n with
    | zero =>
      have hlen : bs.length = 12 := by have := Hfo.out.1; omega
      have hq5' : wr.heap[q5]? = some (.cells (bvals bs).toArray 98 (0, 0)) := HQ5r.out
      cases bs with
      | nil => simp at hlen
      | cons b0 bs =>
      cases bs with
      | nil => simp at hlen
      | cons b1 bs =>
      cases bs with
      | nil => simp at hlen
      | cons b2 bs =>
      cases bs with
      | nil => simp at hlen
      | cons b3 bs =>
      cases bs with
      | nil => simp at hlen
      | cons b4 bs =>
      cases bs with
      | nil => simp at hlen
      | cons b5 bs =>
      cases bs with
      | nil => simp at hlen
      | cons b6 bs =>
      cases bs with
      | nil => simp at hlen
      | cons b7 bs =>
      cases bs with
      | nil => simp at hlen
      | cons b8 bs =>
      cases bs with
      | nil => simp at hlen
      | cons b9 bs =>
      cases bs with
      | nil => simp at hlen
      | cons b10 bs =>
      cases bs with
      | nil => simp at hlen
      | cons b11 bs =>
      cases bs with
      | cons x bs => simp at hlen
      | nil =>
      clear hlen
      have c0 := (cell_list hq5' (i := 0) (u := .int .i64 (b0 : Nat)) rfl).1
      have z0 := (cell_list HQ4r.out (i := 0) (u := .int .i64 ((0 : Nat) : Int)) rfl).1
      have y0 := (cell_list HQ4r.out (i := 0) (u := .int .i64 ((0 : Nat) : Int)) rfl).2
      have c1 := (cell_list hq5' (i := 1) (u := .int .i64 (b1 : Nat)) rfl).1
      have z1 := (cell_list HQ4r.out (i := 1) (u := .int .i64 ((0 : Nat) : Int)) rfl).1
      have y1 := (cell_list HQ4r.out (i := 1) (u := .int .i64 ((0 : Nat) : Int)) rfl).2
      have c2 := (cell_list hq5' (i := 2) (u := .int .i64 (b2 : Nat)) rfl).1
      have z2 := (cell_list HQ4r.out (i := 2) (u := .int .i64 ((0 : Nat) : Int)) rfl).1
      have y2 := (cell_list HQ4r.out (i := 2) (u := .int .i64 ((0 : Nat) : Int)) rfl).2
      have c3 := (cell_list hq5' (i := 3) (u := .int .i64 (b3 : Nat)) rfl).1
      have z3 := (cell_list HQ4r.out (i := 3) (u := .int .i64 ((0 : Nat) : Int)) rfl).1
      have y3 := (cell_list HQ4r.out (i := 3) (u := .int .i64 ((0 : Nat) : Int)) rfl).2
      have c4 := (cell_list hq5' (i := 4) (u := .int .i64 (b4 : Nat)) rfl).1
      have z4 := (cell_list HQ4r.out (i := 4) (u := .int .i64 ((0 : Nat) : Int)) rfl).1
      have y4 := (cell_list HQ4r.out (i := 4) (u := .int .i64 ((0 : Nat) : Int)) rfl).2
      have c5 := (cell_list hq5' (i := 5) (u := .int .i64 (b5 : Nat)) rfl).1
      have z5 := (cell_list HQ4r.out (i := 5) (u := .int .i64 ((0 : Nat) : Int)) rfl).1
      have y5 := (cell_list HQ4r.out (i := 5) (u := .int .i64 ((0 : Nat) : Int)) rfl).2
      have c6 := (cell_list hq5' (i := 6) (u := .int .i64 (b6 : Nat)) rfl).1
      have z6 := (cell_list HQ4r.out (i := 6) (u := .int .i64 ((0 : Nat) : Int)) rfl).1
      have y6 := (cell_list HQ4r.out (i := 6) (u := .int .i64 ((0 : Nat) : Int)) rfl).2
      have c7 := (cell_list hq5' (i := 7) (u := .int .i64 (b7 : Nat)) rfl).1
      have z7 := (cell_list HQ4r.out (i := 7) (u := .int .i64 ((0 : Nat) : Int)) rfl).1
      have y7 := (cell_list HQ4r.out (i := 7) (u := .int .i64 ((0 : Nat) : Int)) rfl).2
      have c8 := (cell_list hq5' (i := 8) (u := .int .i64 (b8 : Nat)) rfl).1
      have z8 := (cell_list HQ4r.out (i := 8) (u := .int .i64 ((0 : Nat) : Int)) rfl).1
      have y8 := (cell_list HQ4r.out (i := 8) (u := .int .i64 ((0 : Nat) : Int)) rfl).2
      have c9 := (cell_list hq5' (i := 9) (u := .int .i64 (b9 : Nat)) rfl).1
      have z9 := (cell_list HQ4r.out (i := 9) (u := .int .i64 ((0 : Nat) : Int)) rfl).1
      have y9 := (cell_list HQ4r.out (i := 9) (u := .int .i64 ((0 : Nat) : Int)) rfl).2
      have c10 := (cell_list hq5' (i := 10) (u := .int .i64 (b10 : Nat)) rfl).1
      have z10 := (cell_list HQ4r.out (i := 10) (u := .int .i64 ((0 : Nat) : Int)) rfl).1
      have y10 := (cell_list HQ4r.out (i := 10) (u := .int .i64 ((0 : Nat) : Int)) rfl).2
      have c11 := (cell_list hq5' (i := 11) (u := .int .i64 (b11 : Nat)) rfl).1
      have z11 := (cell_list HQ4r.out (i := 11) (u := .int .i64 ((0 : Nat) : Int)) rfl).1
      have y11 := (cell_list HQ4r.out (i := 11) (u := .int .i64 ((0 : Nat) : Int)) rfl).2
      have hx := blk_lt HQ4r.out
      have hm1 : ((0 : Nat) : Int) - 1 = -1 := rfl
      rw [hm1]
      clear hq5'
      have hfo := Hfo.out
      go_wp2
      refine bodyPost_ret (v := .agg #[.int .i64 (b0 : Nat), .int .i64 (b1 : Nat), .int .i64 (b2 : Nat), .int .i64 (b3 : Nat), .int .i64 (b4 : Nat), .int .i64 (b5 : Nat), .int .i64 (b6 : Nat), .int .i64 (b7 : Nat), .int .i64 (b8 : Nat), .int .i64 (b9 : Nat), .int .i64 (b10 : Nat), .int .i64 (b11 : Nat)]) (by simp [results, Try.results47, go_sem, z0, z1, z2, z3, z4, z5, z6, z7, z8, z9, z10, z11]) rfl ⟨[b0, b1, b2, b3, b4, b5, b6, b7, b8, b9, b10, b11], rfl, hfo, ?_⟩
      exact ((((((((((((hbr).setCell (p := ⟨w.heap.size, 0, none⟩) (Nat.le_refl _) _).setCell (p := ⟨w.heap.size, 1, none⟩) (Nat.le_refl _) _).setCell (p := ⟨w.heap.size, 2, none⟩) (Nat.le_refl _) _).setCell (p := ⟨w.heap.size, 3, none⟩) (Nat.le_refl _) _).setCell (p := ⟨w.heap.size, 4, none⟩) (Nat.le_refl _) _).setCell (p := ⟨w.heap.size, 5, none⟩) (Nat.le_refl _) _).setCell (p := ⟨w.heap.size, 6, none⟩) (Nat.le_refl _) _).setCell (p := ⟨w.heap.size, 7, none⟩) (Nat.le_refl _) _).setCell (p := ⟨w.heap.size, 8, none⟩) (Nat.le_refl _) _).setCell (p := ⟨w.heap.size, 9, none⟩) (Nat.le_refl _) _).setCell (p := ⟨w.heap.size, 10, none⟩) (Nat.le_refl _) _).setCell (p := ⟨w.heap.size, 11, none⟩) (Nat.le_refl _) _
    | succ m =>
      rw [show ((m + 1 : Nat) : Int) - 1 = (m : Int) by omega]
      have Hn := Lib.hid hnt
      obtain ⟨g, cv, hv, hc1, hc2, hid, k0, d0, d1, d2, dn⟩ := (H.out.below hbr).node i hi
      have hd := dn m (by omega)
      unfold maxLen at hc2
      have hm0 : (0 : Int) ≤ (m : Int) := by omega
      have hmI : (m : Int) < (T[i].ht : Int) := by omega
      clear dn d0 d1
      generalize hwR : wr = wR at *
      go_upto_region 7 with (fail)
      have HB := Lib.hid hbr
      clear hd d2 k0
      go_loopg [6, 8] (T.length - i) (fun gk at' nn wx => ∃ (i : Nat) (hi : i < T.length), T.length - i = gk ∧ at' = .int .i64 (T[i].id : Nat) ∧ nn = .int .i64 (fid (T.drop (i + 1)) m : Nat) ∧ (i = 0 ∨ blt T[i].key k = true) ∧ m < T[i].ht ∧ wR = wx)
      case atStart => exact ⟨i, hi, rfl, rfl, rfl, Hik.out, by have := Hn.out; omega, rfl⟩
      case round =>
        clear hid hmI Hn hnt
        obtain ⟨i2, hi2, rfl, rfl, hnn, hik2, hmt, rfl⟩ := hrel
        have Hik2 := Lib.hid hik2
        have hfin : Hid (∀ (hP : PredAt' blt T k m i2), Found blt T k m (T[i2].id :: bs)) := Lib.hid fun hP => Hfo.out.cons hi2 hP
        have hst : (List.replicate (m + 1) 0 ++ bs).set m T[i2].id = List.replicate m 0 ++ T[i2].id :: bs := by
          rw [List.replicate_succ']
          simp [List.set_append]
        have Hst := Lib.hid hst
        have hq5m : (bvals (List.replicate (m + 1) 0 ++ bs))[m]? = some (.int .i64 0) := by
          unfold bvals
          rw [List.getElem?_map, List.getElem?_append_left (by simp), List.getElem?_replicate_of_lt (by omega)]; rfl
        obtain ⟨q50, q51⟩ := cell_list HQ5r.out hq5m
        clear hik2 hst hq5m
        rcases next_cases T i2 m hi2 with ⟨j, hj, hij, hmj, hfid, hbet⟩ | ⟨hfid, hall⟩
        · rw [hfid] at hnn
          subst hnn
          have hne : T[j].id ≠ 0 := fun e => by
            have := H.out.ids 0 j h0 hj (by rw [hid0, e])
            omega
          obtain ⟨g, cv, hv, hc1, hc2, hid, k0, d0, d1, d2, dn⟩ := (H.out.below HB.out).node j hj
          have hd := dn m hmj
          unfold maxLen at hc2
          have Hbet := Lib.hid hbet
          have hne1 : ((T[j].id : Int) != 0) = true := by rw [bne_iff_ne]; omega
          have hne2 : ((T[j].id : Int) == 0) = false := by rw [beq_eq_false_iff_ne]; omega
          have hmI : (m : Int) < (T[j].ht : Int) := by omega
          have Hmj := Lib.hid hmj
          have Hmt := Lib.hid hmt
          clear dn hbet hne hfid
          cases hkj : blt T[j].key k with
          | true =>
            have hlt := blt_less hkj
            have Hkj := Lib.hid hkj
            clear hkj
            go_wp2
            go_roundg (T.length - j)
            case measure => omega
            case rel => exact ⟨j, hj, rfl, rfl, rfl, .inr Hkj.out, Hmj.out, rfl⟩
          | false =>
            have hlt := blt_less hkj
            have hP := hfin.out (predAt_end blt_ord HR.out hi2 hmt Hik2.out (.inl ⟨j, hj, hij, hkj, Hbet.out⟩))
            have HP := Lib.hid hP
            skip
            clear hkj hP
            go_wp2
            go_roundw
            case rel => exact ⟨m, i2, hi2, T[i2].id :: bs, by omega, by go_num, rfl, Hik2.out, by omega, HP.out, by rw [← Hst.out, bvals_set]; exact heap_set_list HQ5r.out m _, blk_chg HQ4r.out (Chg.set wR q5 m _) (by omega), HB.out.setCell (p := ⟨q5, m, none⟩) (Nat.le_of_lt hq5w) _⟩
            case measure => simp [intOf]
        · rw [hfid] at hnn
          subst hnn
          have hP := hfin.out (predAt_end blt_ord HR.out hi2 hmt Hik2.out (.inr hall))
          have HP := Lib.hid hP
          have Hmt := Lib.hid hmt
          clear hall hfid hP
          go_wp2
          go_roundw
          case rel => exact ⟨m, i2, hi2, T[i2].id :: bs, by omega, by go_num, rfl, Hik2.out, by omega, HP.out, by rw [← Hst.out, bvals_set]; exact heap_set_list HQ5r.out m _, blk_chg HQ4r.out (Chg.set wR q5 m _) (by omega), HB.out.setCell (p := ⟨q5, m, none⟩) (Nat.le_of_lt hq5w) _⟩
          case measure => simp [intOf]
theorem before_ii' {w : World} {B p : Nat} {v : Value} {T : List (SE ByteArray)} (h : SK 91 94 (.string) w B p v T) (hr : TRise blt T) (hl : T.length ≤ 1000000) (k : ByteArray) (bs : List Nat) (hb : Found blt T k 0 bs) :
    Calls Try.prog 47 #[.pointer (some ⟨p, 0, none⟩), .string k] w fun e w' => e = .returned (.agg (bvals bs).toArray) ∧ Below w.heap.size w w' :=
  (before_ii h hr hl k).mono fun e w' ⟨bs', h1, h2, h3⟩ => ⟨by rw [h1, found_unique h2 hb], h3⟩
set_option maxRecDepth 100000 in
set_option maxHeartbeats 4000000 in
theorem ceil_ii {w : World} {B p : Nat} {v : Value} {T : List (SE ByteArray)} (h : SK 91 94 (.string) w B p v T) (hr : TRise blt T) (hl : T.length ≤ 1000000) (hht : ∀ j (hj : j < T.length), 0 < T[j].ht) (k : ByteArray) (c : Nat) (hc : CutAt blt T k c) :
    Calls Try.prog 49 #[.pointer (some ⟨p, 0, none⟩), .string k] w fun e w' => e = .returned (.int .i64 (if h : c < T.length then T[c].id else 0 : Nat)) ∧ Below w.heap.size w w' := by
  obtain ⟨h0, hh0, _⟩ := level_room h
  obtain ⟨bs, hbs⟩ := found_some (lt := blt) (k := k) h0 hh0 0 (by decide)
  have hbl : bs.length = 12 := by have := hbs.1; omega
  obtain ⟨b0, b1, b2, b3, b4, b5, b6, b7, b8, b9, b10, b11, rfl⟩ := twelve hbl
  obtain ⟨i, hi, hp, hbi⟩ := hbs.2 0 (by simp)
  have hbi : b0 = T[i].id := hbi
  have hic := pred_zero hc hht hp
  have Hbef : Hid (∀ W, Below w.heap.size w W → Calls Try.prog 47 #[.pointer (some ⟨p, 0, none⟩), .string k] W fun e w' => e = .returned (.agg #[.int .i64 (b0 : Nat), .int .i64 (b1 : Nat), .int .i64 (b2 : Nat), .int .i64 (b3 : Nat), .int .i64 (b4 : Nat), .int .i64 (b5 : Nat), .int .i64 (b6 : Nat), .int .i64 (b7 : Nat), .int .i64 (b8 : Nat), .int .i64 (b9 : Nat), .int .i64 (b10 : Nat), .int .i64 (b11 : Nat)]) ∧ Below W.heap.size W w') := Lib.hid fun W hB => before_ii' (h.below hB) hr hl k _ hbs
  obtain ⟨g, cv, hv, hc1, hc2, hid, k0, d0, d1, d2, dn⟩ := h.node i hi
  have hd := dn 0 (hht i hi)
  rw [hic, next_zero c hht] at hd
  have hti := hht i hi
  generalize (if h : c < T.length then T[c].id else 0 : Nat) = R at *
  have hidI : ((T[i].id : Nat) : Int) < (T.length : Int) := by omega
  have hid0 : (0 : Int) ≤ ((T[i].id : Nat) : Int) := by omega
  rw [← hbi] at hid d2 hidI hid0
  unfold maxLen at hc2
  have i0 : ∀ w, (Instr.index 98 (.agg #[.int .i64 (b0 : Nat), .int .i64 (b1 : Nat), .int .i64 (b2 : Nat), .int .i64 (b3 : Nat), .int .i64 (b4 : Nat), .int .i64 (b5 : Nat), .int .i64 (b6 : Nat), .int .i64 (b7 : Nat), .int .i64 (b8 : Nat), .int .i64 (b9 : Nat), .int .i64 (b10 : Nat), .int .i64 (b11 : Nat)]) (.int .i64 0)).run Try.prog w = .ok (.int .i64 (b0 : Nat)) w := fun _ => by first | kernel_rfl | rfl
  have s0 := cell_next k0
  have s2 := cell_next d2
  have sd := cell_next hd
  have Bq := bnext_grow (Below.refl w.heap.size w)
  clear hic hc hp hbi d0 d1 dn hbs hr hbl
  go_enter Try.func49, Try.ntmps49
  go_upto_region 1 with (fail)
  refine wp_region_quiet_below (by kernel_rfl) (by kernel_rfl) ?_; (repeat (go_big_quiet_step ((go_at_call 47; (with_reducible refine Calls.regrown_of (Hbef.out _ (Bq _ _))))))); refine wpQuiet_nil ?_; rintro _ ⟨pq, rfl⟩
  go_wp2
  go_ret
  exact ⟨rfl, Bq _ _⟩
set_option maxRecDepth 100000 in
set_option maxHeartbeats 2000000 in
theorem find_ii {w : World} {B p : Nat} {v : Value} {T : List (SE ByteArray)} (h : SK 91 94 (.string) w B p v T) (hr : TRise blt T) (hl : T.length ≤ 1000000) (hht : ∀ j (hj : j < T.length), 0 < T[j].ht) (k : ByteArray) (c : Nat) (hc : CutAt blt T k c) (R : Nat)
    (hR : (∃ hlt : c < T.length, T[c].key = k ∧ R = T[c].id) ∨ (R = 0 ∧ ∀ hlt : c < T.length, T[c].key ≠ k)) :
    Calls Try.prog 46 #[.pointer (some ⟨p, 0, none⟩), .string k] w fun e w' => e = .returned (.int .i64 (R : Nat)) ∧ Below w.heap.size w w' := by
  have hce := ceil_ii h hr hl hht k c hc
  obtain ⟨h0, hh0, hid0⟩ := level_room h
  by_cases hlt : c < T.length
  · rw [dif_pos hlt] at hce
    have hne : T[c].id ≠ 0 := fun e => by
      have := h.ids 0 c h0 hlt (by rw [hid0, e])
      have := hc.1
      omega
    obtain ⟨g, cv, hv, hc1, hc2, hid, k0, d0, d1, d2, dn⟩ := h.node c hlt
    have Hce := Lib.hid hce
    have s0 := cell_next k0
    have s1 := cell_next d0
    have hn1 : ((T[c].id : Int) != 0) = true := by rw [bne_iff_ne]; omega
    have hn2 : ((T[c].id : Int) == 0) = false := by rw [beq_eq_false_iff_ne]; omega
    unfold maxLen at hc2
    have HR := Lib.hid hR
    clear hce hR hc dn d1 d2 d0 k0 hr hne
    by_cases hk : T[c].key = k
    · have hRe : R = T[c].id := by
        rcases HR.out with ⟨_, _, h3⟩ | ⟨_, h2⟩
        · exact h3
        · exact absurd hk (h2 hlt)
      subst hRe
      have hk2 := str_same hk
      clear hk
      go_enter Try.func46, Try.ntmps46
      go_wp2_with fail; (with_reducible refine (Hce.out).mono ?_); rintro e w1 ⟨rfl, hb1⟩
      have e0 := s0 _ hb1
      have e1 := s1 _ hb1
      go_wp2
      go_ret
      exact ⟨rfl, hb1⟩
    · have hRe : R = 0 := by
        rcases HR.out with ⟨_, h2, _⟩ | ⟨h1, _⟩
        · exact absurd h2 hk
        · exact h1
      subst hRe
      have hk2 := str_diff hk
      clear hk
      go_enter Try.func46, Try.ntmps46
      go_wp2_with fail; (with_reducible refine (Hce.out).mono ?_); rintro e w1 ⟨rfl, hb1⟩
      have e0 := s0 _ hb1
      have e1 := s1 _ hb1
      go_wp2
      go_ret
      exact ⟨rfl, hb1⟩
  · rw [dif_neg hlt] at hce
    have Hce := Lib.hid hce
    obtain rfl : R = 0 := by
      rcases hR with ⟨h1, _⟩ | ⟨h1, _⟩
      · exact absurd h1 hlt
      · exact h1
    clear hce hR hc hr
    go_enter Try.func46, Try.ntmps46
    go_wp2_with fail; (with_reducible refine (Hce.out).mono ?_); rintro e w1 ⟨rfl, hb1⟩
    go_wp2
    go_ret
    exact ⟨rfl, hb1⟩
set_option maxHeartbeats 1000000 in
theorem sklen_ii {w : World} {B p : Nat} {v : Value} {T : List (SE ByteArray)} (h : SK 91 94 (.string) w B p v T) (hl : T.length ≤ 1000000) :
    Calls Try.prog 39 #[.pointer (some ⟨p, 0, none⟩)] w fun e w' => e = .returned (.int .i64 ((T.length : Int) - 1)) ∧ w = w' := by
  obtain ⟨h0, hh0, hid0⟩ := level_room h
  obtain ⟨g, cv, hv, hc1, hc2, hid, k0, d0, d1, d2, dn⟩ := h.node 0 h0
  clear h d0 d1 d2 dn
  go_enter Try.func39, Try.ntmps39
  go_wp2
  go_ret
  exact ⟨rfl, rfl⟩
set_option maxHeartbeats 1000000 in
theorem tell_ii {w : World} {B p : Nat} {v : Value} {T : List (SE ByteArray)} (h : SK 91 94 (.string) w B p v T) (hl : T.length ≤ 1000000) (i : Nat) (hi : i < T.length) (y : ByteArray) (hy : T[i].val = .string y) (z : Bool) (hz : ((T[i].id : Int) != 0) = z) :
    Calls Try.prog 48 #[.pointer (some ⟨p, 0, none⟩), .int .i64 (T[i].id : Nat)] w fun e w' => e = .returned (.tuple #[.string T[i].key, .string y, .bool z]) ∧ Below w.heap.size w w' := by
  obtain ⟨g, cv, hv, hc1, hc2, hid, k0, d0, d1, d2, dn⟩ := h.node i hi
  rw [hy] at d1
  have hg := World.block_lt_of_cell? w _ d0
  have hp := World.block_lt_of_cell? w _ k0
  unfold maxLen at hc2
  clear h dn hy
  generalize T[i].key = kk at *
  generalize T[i].id = nn at *
  generalize T[i].blk = bk at *
  generalize T[i].ht = th at *
  go_enter Try.func48, Try.ntmps48
  go_upto_region 2 with (fail)
  refine gen_wp (fun w' => w'.cell? ⟨w.heap.size, 0, none⟩ = some (.string kk) ∧ w'.cell? ⟨w.heap.size, 1, none⟩ = some (.string y) ∧ Below w.heap.size w w') ?_ ?_
  · refine ⟨?_, ?_, ?_⟩
    · go_simp
    · go_simp
    · (repeat first | exact Below.refl _ _ | refine Below.drew ?_ | refine Below.alloc ?_ (by simp <;> omega) _ | refine Below.setCell ?_ (by simp <;> omega) _)
  rintro w1 ⟨q0, q1, hb1⟩
  go_quiet (fail)
  go_wp2
  go_ret3
  exact ⟨rfl, below_drewN hb1 _⟩
/-- node i, as it is told -/
def TellIs (T : List (SE ByteArray)) (i : Nat) (k : ByteArray) (y : ByteArray) (z : Bool) : Prop := ∃ hi : i < T.length, T[i].key = k ∧ T[i].val = .string y ∧ ((T[i].id : Int) != 0) = z
set_option maxHeartbeats 2000000 in
theorem Ceil_ii {w : World} {B p : Nat} {v : Value} {T : List (SE ByteArray)} (h : SK 91 94 (.string) w B p v T) (hr : TRise blt T) (hl : T.length ≤ 1000000) (hht : ∀ j (hj : j < T.length), 0 < T[j].ht) (k : ByteArray) (c : Nat) (hc : CutAt blt T k c) (rk : ByteArray) (ry : ByteArray) (rz : Bool) (hR : TellIs T (if c < T.length then c else 0) rk ry rz) :
    Calls Try.prog 31 #[.pointer (some ⟨p, 0, none⟩), .string k] w fun e w' => e = .returned (.tuple #[.string rk, .string ry, .bool rz]) ∧ Below w.heap.size w w' := by
  have hce := ceil_ii h hr hl hht k c hc
  obtain ⟨h0, hh0, hid0⟩ := level_room h
  obtain ⟨hi, h1, h2, h3⟩ := hR
  have e : (if h : c < T.length then T[c].id else 0 : Nat) = (T[if c < T.length then c else 0]'hi).id := by
    by_cases hlt : c < T.length
    · rw [dif_pos hlt]; simp only [if_pos hlt]
    · rw [dif_neg hlt]; simp only [if_neg hlt]; exact hid0.symm
  rw [e] at hce
  have hte := fun W (hB : Below w.heap.size w W) => tell_ii (h.below hB) hl _ hi ry h2 rz h3
  rw [h1] at hte
  have Hce := Lib.hid hce
  have Hte := Lib.hid hte
  clear hce hte h h1 h2 h3 hc hr e
  generalize (T[if c < T.length then c else 0]'hi).id = n at *
  go_enter Try.func31, Try.ntmps31
  go_wp2_with fail; (with_reducible refine (Hce.out).mono ?_); rintro e w1 ⟨rfl, hb1⟩
  go_wp2_with fail; (with_reducible refine (Hte.out _ hb1).mono ?_); rintro e w2 ⟨rfl, hb2⟩
  go_wp2
  go_ret3
  exact ⟨rfl, bnext hb1 hb2⟩
set_option maxHeartbeats 1000000 in
theorem put_bad_ii (w : World) (p : Nat) (k : ByteArray) (y : ByteArray) (ht : Int) (h : ht < 1 ∨ 12 < ht) :
    Calls Try.prog 28 #[.pointer (some ⟨p, 0, none⟩), .string k, .string y, .int .i64 ht] w fun e w' => e = .returned (.tuple #[.bool false, .int .i64 70]) ∧ w = w' := by
  rcases h with h | h
  · go_enter Try.func28, Try.ntmps28
    go_wp2
    go_ret2
    exact ⟨rfl, rfl⟩
  · have h1 : 1 ≤ ht := by omega
    go_enter Try.func28, Try.ntmps28
    go_wp2
    go_ret2
    exact ⟨rfl, rfl⟩

set_option maxRecDepth 100000 in
set_option maxHeartbeats 2000000 in
theorem put_again_ii {w : World} {B p : Nat} {v : Value} {T : List (SE ByteArray)} (h : SK 91 94 (.string) w B p v T) (hr : TRise blt T) (hl : T.length ≤ 1000000) (hht : ∀ j (hj : j < T.length), 0 < T[j].ht) (k : ByteArray) (y0 y : ByteArray) (ht : Int) (h1 : 1 ≤ ht) (h2 : ht ≤ 12) (c : Nat) (hc : CutAt blt T k c) (hlt : c < T.length) (hk : T[c].key = k) (hy0 : T[c].val = .string y0) (hB : B ≤ w.heap.size) :
    Calls Try.prog 28 #[.pointer (some ⟨p, 0, none⟩), .string k, .string y, .int .i64 ht] w fun e w' => e = .returned (.tuple #[.bool false, .int .i64 0]) ∧ SK 91 94 (.string) w' B p v (T.modify c (setV · (.string y))) ∧ Chg (Fp p v T) w w' := by
  have hfi := find_ii h hr hl hht k c hc T[c].id (.inl ⟨hlt, hk, rfl⟩)
  obtain ⟨h0, hh0, hid0⟩ := level_room h
  have hne : T[c].id ≠ 0 := fun e => by
    have := h.ids 0 c h0 hlt (by rw [hid0, e])
    have := hc.1
    omega
  obtain ⟨g, cv, rfl, hc1, hc2, hid, k0, d0, d1, d2, dn⟩ := h.node c hlt
  rw [hy0] at d1
  have hfz : ∀ W, Below w.heap.size w W → W.frozen? ⟨g, T[c].id * 3 + 1, none⟩ = false := fun W hB => by
    obtain ⟨xs, hrow, _⟩ := (h.below hB).row
    exact World.ownsRow.frozenAt hrow _
  have Hset : Hid (∀ W, Below w.heap.size w W → SK 91 94 (.string) (W.setCell ⟨g, T[c].id * 3 + 1, none⟩ (.string y)) B p (.slice (some ⟨g, 0, none⟩) T.length cv) (T.modify c (setV · (.string y)))) := Lib.hid fun W hB => (h.below hB).setVal (by decide) (by decide) c hlt _
  have Hfz := Lib.hid hfz
  have Hfi := Lib.hid hfi
  have s0 := cell_next k0
  have s1 := cell_next d1
  have hn1 : ((T[c].id : Int) != 0) = true := by rw [bne_iff_ne]; omega
  have hn2 : ((T[c].id : Int) == 0) = false := by rw [beq_eq_false_iff_ne]; omega
  unfold maxLen at hc2
  clear hfi hne hc hr hk d0 d1 dn k0 d2 hfz h hy0
  generalize T[c].id = n at *
  go_enter Try.func28, Try.ntmps28
  go_wp2_with fail; (with_reducible refine (Hfi.out).mono ?_); rintro e w1 ⟨rfl, hb1⟩
  have e0 := s0 _ hb1
  have e1 := s1 _ hb1
  have ef := Hfz.out _ hb1
  have HB1 := Lib.hid hb1
  clear hb1
  go_wp2
  go_ret2
  exact ⟨rfl, Hset.out _ HB1.out, (Chg.of_below HB1.out).trans2 (Chg.set _ g _ _) (fun x _ hx => .inr (.inl (by rw [hx]; rfl)))⟩
set_option maxRecDepth 100000 in
set_option maxHeartbeats 2000000 in
theorem new_ii (w : World) : Calls Try.prog 24 #[] w fun e w' => ∃ p v, e = .returned (.pointer (some ⟨p, 0, none⟩)) ∧ SK 91 94 (.string) w' w.heap.size p v [⟨(ByteArray.empty : ByteArray), .string ByteArray.empty, 12, 0, w.heap.size⟩] ∧ Below w.heap.size w w' := by
  go_enter Try.func24, Try.ntmps24
  go_wp2_with (at_make; refine wpList_mki05 rfl (.const (.int .i64 12)) (.const (.int .i64 12)) rfl w.heap.size 12 rfl rfl (by decide) (Nat.le_refl _) ?_; intro w1 ho1 hb1; have Ho1 := Lib.hid ho1; clear ho1)
  go_ret
  have hw1 := hb1.size
  have hr : ((w1.alloc (.cells #[.string ByteArray.empty, .string ByteArray.empty, .slice (some ⟨w.heap.size, 0, none⟩) 12 12] 91)).alloc (.cells #[.slice (some ⟨w1.heap.size, 0, none⟩) 1 1] 94)).heap[w1.heap.size]? = some (.cells #[.string ByteArray.empty, .string ByteArray.empty, .slice (some ⟨w.heap.size, 0, none⟩) 12 12] 91 (0, 0)) :=
    blk_chg (heap_alloc_new w1 _) (Chg.of_below (F := fun _ => False) ((Below.refl _ _).alloc (Nat.le_refl _) _)) (fun h => h)
  refine ⟨w1.heap.size + 1, .slice (some ⟨w1.heap.size, 0, none⟩) 1 1, rfl, ⟨?_, ⟨[.string ByteArray.empty, .string ByteArray.empty, .slice (some ⟨w.heap.size, 0, none⟩) 12 12], ?_, ?_⟩, ?_, ?_, ?_, ?_, ⟨_, [], rfl, rfl, rfl⟩, by omega⟩, ?_⟩
  · have := heap_alloc_new (w1.alloc (.cells #[.string ByteArray.empty, .string ByteArray.empty, .slice (some ⟨w.heap.size, 0, none⟩) 12 12] 91)) (.cells #[.slice (some ⟨w1.heap.size, 0, none⟩) 1 1] 94)
    rw [show (w1.alloc (.cells #[.string ByteArray.empty, .string ByteArray.empty, .slice (some ⟨w.heap.size, 0, none⟩) 12 12] 91)).heap.size = w1.heap.size + 1 by simp] at this
    exact this
  · exact ⟨rfl, .inr ⟨w1.heap.size, 1, _, rfl, hw1, hr, Nat.le_refl _, by decide, rfl, rfl⟩⟩
  · intro e he
    rw [List.mem_singleton] at he
    subst he
    exact ⟨rfl, rfl, rfl⟩
  · intro i hi
    obtain rfl : i = 0 := by simpa using hi
    exact World.ownsRow.alloc (World.ownsRow.alloc Ho1.out _) _
  · intro i j hi hj _
    simp at hi hj; omega
  · intro i j hi hj _
    simp at hi hj; omega
  · intro e he
    rw [List.mem_singleton] at he
    subst he
    exact Nat.zero_lt_one
  · exact (hb1.alloc hw1 _).alloc (by simp; omega) _
/-- the place of a key, or the head -/
def fnd (T : List (SE ByteArray)) (c : Nat) (k : ByteArray) : Nat := if h : c < T.length then (if T[c].key = k then c else 0) else 0
theorem fnd_lt {T : List (SE ByteArray)} (c : Nat) (k : ByteArray) (h0 : 0 < T.length) : fnd T c k < T.length := by
  unfold fnd; split
  · split <;> omega
  · exact h0
theorem find_pl {w : World} {B p : Nat} {v : Value} {T : List (SE ByteArray)} (h : SK 91 94 (.string) w B p v T) (hr : TRise blt T) (hl : T.length ≤ 1000000) (hht : ∀ j (hj : j < T.length), 0 < T[j].ht) (k : ByteArray) (c : Nat) (hc : CutAt blt T k c) (h0 : fnd T c k < T.length) :
    Calls Try.prog 46 #[.pointer (some ⟨p, 0, none⟩), .string k] w fun e w' => e = .returned (.int .i64 (T[fnd T c k].id : Nat)) ∧ Below w.heap.size w w' := by
  obtain ⟨hp0, hh0, hid0⟩ := level_room h
  refine find_ii h hr hl hht k c hc _ ?_
  by_cases hlt : c < T.length
  · by_cases hk : T[c].key = k
    · have e : fnd T c k = c := by unfold fnd; rw [dif_pos hlt, if_pos hk]
      exact .inl ⟨hlt, hk, by simp only [e]⟩
    · have e : fnd T c k = 0 := by unfold fnd; rw [dif_pos hlt, if_neg hk]
      exact .inr ⟨by simp only [e]; exact hid0, fun _ => hk⟩
  · have e : fnd T c k = 0 := by unfold fnd; rw [dif_neg hlt]
    exact .inr ⟨by simp only [e]; exact hid0, fun h => absurd h hlt⟩
set_option maxHeartbeats 2000000 in
theorem Get_ii {w : World} {B p : Nat} {v : Value} {T : List (SE ByteArray)} (h : SK 91 94 (.string) w B p v T) (hr : TRise blt T) (hl : T.length ≤ 1000000) (hht : ∀ j (hj : j < T.length), 0 < T[j].ht) (k : ByteArray) (c : Nat) (hc : CutAt blt T k c) (rk : ByteArray) (ry : ByteArray) (rz : Bool) (hR : TellIs T (fnd T c k) rk ry rz) :
    Calls Try.prog 41 #[.pointer (some ⟨p, 0, none⟩), .string k] w fun e w' => e = .returned (.tuple #[.string ry, .bool rz]) ∧ Below w.heap.size w w' := by
  obtain ⟨hi, h1, h2, h3⟩ := hR
  have hfi := find_pl h hr hl hht k c hc hi
  have hte := fun W (hB : Below w.heap.size w W) => tell_ii (h.below hB) hl _ hi ry h2 rz h3
  rw [h1] at hte
  have Hfi := Lib.hid hfi
  have Hte := Lib.hid hte
  clear hfi hte h h1 h2 h3 hc hr
  generalize T[fnd T c k].id = n at *
  go_enter Try.func41, Try.ntmps41
  go_wp2_with fail; (with_reducible refine (Hfi.out).mono ?_); rintro e w1 ⟨rfl, hb1⟩
  go_wp2_with fail; (with_reducible refine (Hte.out _ hb1).mono ?_); rintro e w2 ⟨rfl, hb2⟩
  go_wp2
  go_ret2
  exact ⟨rfl, bnext hb1 hb2⟩
end Go.Proofs.Ytcbkjhbneigkaaa.ss
