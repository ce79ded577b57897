/- BatchKeys: its walk. -/
import Derived.Test.YtmgifejmheoddaaBaw
namespace Go.Proofs.Ytmgifejmheoddaa
open Go.RowKit
set_option linter.unusedVariables false

theorem keyRow_len (seq : Int) (l : List OpD) : ∀ n, (keyRow seq l n).length = n * 3
  | 0 => rfl
  | n + 1 => by rw [keyRow_succ, List.length_append, keyRow_len seq l n]; simp; omega
theorem keyRow_at (seq : Int) (l : List OpD) (k : Nat) : ∀ n, k < n → (keyRow seq l n)[k * 3]? = some (.string (opAt l k).key) ∧ (keyRow seq l n)[k * 3 + 1]? = some (.int .i64 (seq + k)) ∧ (keyRow seq l n)[k * 3 + 2]? = some (.int .i64 (opAt l k).kind)
  | n + 1, h => by
    rw [keyRow_succ]
    have hlen := keyRow_len seq l n
    by_cases e : k = n
    · subst e
      refine ⟨?_, ?_, ?_⟩
      · rw [List.getElem?_append_right (by omega), show k * 3 - (keyRow seq l k).length = 0 by omega]; rfl
      · rw [List.getElem?_append_right (by omega), show k * 3 + 1 - (keyRow seq l k).length = 1 by omega]; rfl
      · rw [List.getElem?_append_right (by omega), show k * 3 + 2 - (keyRow seq l k).length = 2 by omega]; rfl
    · obtain ⟨h1, h2, h3⟩ := keyRow_at seq l k n (by omega)
      refine ⟨?_, ?_, ?_⟩
      · rw [List.getElem?_append_left (by omega)]; exact h1
      · rw [List.getElem?_append_left (by omega)]; exact h2
      · rw [List.getElem?_append_left (by omega)]; exact h3
/-- the row of keys, read -/
def KeyCells (w : World) (g off : Nat) (seq : Int) (l : List OpD) : Prop :=
  ∀ k (h : k < l.length), w.cell? ⟨g, off + k * 3, none⟩ = some (.string l[k].key) ∧ w.cell? ⟨g, off + k * 3 + 1, none⟩ = some (.int .i64 (seq + k)) ∧ w.cell? ⟨g, off + k * 3 + 2, none⟩ = some (.int .i64 l[k].kind)
theorem KeyCells.below {w w' : World} {g off : Nat} {seq : Int} {l : List OpD} (h : KeyCells w g off seq l) (hb : Below w.heap.size w w') : KeyCells w' g off seq l := fun k hk =>
  ⟨cell_next (h k hk).1 _ hb, cell_next (h k hk).2.1 _ hb, cell_next (h k hk).2.2 _ hb⟩
theorem key_cells {w : World} {B : Nat} {v : Value} {seq : Int} {l : List OpD} (h : w.ownsRow B 36 3 v l.length (keyRow seq l l.length)) (hl : 0 < l.length) : ∃ g off c, v = .slice (some ⟨g, off, none⟩) l.length c ∧ KeyCells w g off seq l := by
  obtain ⟨ao, c, rfl, _, _, hs⟩ := row_shape h
  obtain ⟨g, rfl, _⟩ := hs hl
  refine ⟨g, 0, c, rfl, fun k hk => ?_⟩
  obtain ⟨h1, h2, h3⟩ := keyRow_at seq l k l.length hk
  have e : opAt l k = l[k] := by unfold opAt; rw [List.getD, List.getElem?_eq_getElem hk]; rfl
  rw [e] at h1 h3
  rw [Nat.zero_add]
  refine ⟨?_, ?_, ?_⟩
  · rw [World.ownsRow.cellAt h _ (by omega)]; exact h1
  · rw [World.ownsRow.cellAt h _ (by omega)]; exact h2
  · rw [World.ownsRow.cellAt h _ (by omega)]; exact h3

theorem batRight_op {x : OpD} (h : opRight x = true) : 1 ≤ x.kind ∧ x.kind ≤ 3 ∧ 1 ≤ x.key.size ∧ x.key.size ≤ 64 := by
  unfold opRight at h
  simp only [decide_eq_true_eq] at h
  omega

theorem batlast_ok {w : World} {a : Option Addr} {c : Nat} {l : List OpD} (h : OPs w a l) (hl : l.length ≤ maxLen) (seq : Int) (hr : batRight seq l = true) :
    Calls Try.prog 13 #[.agg #[.int .i64 seq, .slice a l.length c]] w fun e w' => e = .returned (.int .i64 (seq + l.length - 1)) ∧ Below w.heap.size w w' := by
  have := batlast (c := c) h hl seq
  rw [show batLast seq l = seq + l.length - 1 by unfold batLast; rw [hr, if_pos rfl]] at this
  exact this

set_option maxRecDepth 100000 in
set_option maxHeartbeats 4000000 in
theorem bkeys_yes {w : World} {a : Option Addr} {c : Nat} {l : List OpD} (h : OPs w a l) (hl : l.length ≤ maxLen) (seq : Int) :
    Calls Try.prog 4 #[.agg #[.int .i64 seq, .slice a l.length c]] w fun e w' => e = .returned (.bool true) ∧ Below w.heap.size w w' := by
  have H := Lib.hid h
  have hl' := hl
  unfold maxLen at hl'
  clear h
  go_enter Try.func4, Try.ntmps4
  go_upto_region 1 with (fail)
  refine gen_wp (fun w' => Below w.heap.size w w' ∧ w'.cell? ⟨w.heap.size, 0, none⟩ = some (.int .i64 seq) ∧ w'.cell? ⟨w.heap.size, 1, none⟩ = some (.slice a l.length c)) ?_ ?_
  · refine ⟨?_, ?_, ?_⟩
    · (repeat first | exact Below.refl _ _ | refine Below.drew ?_ | refine Below.alloc ?_ (by simp <;> omega) _ | refine Below.setCell ?_ (by simp <;> omega) _)
    all_goals go_simp
  rintro w0 ⟨hb0, c0, c1⟩
  have s0 := cell_next c0
  have s1 := cell_next c1
  have HO : Hid (∀ w', Below w0.heap.size w0 w' → OPs w' a l) := by
    have h0 := H.out.below (hb0.mono (Nat.le_refl _))
    exact Lib.hid fun w' hb => h0.below hb
  have B0 := Below.refl w0.heap.size w0
  clear c0 c1
  have hsm := bsmall_any (c := c) (HO.out _ B0) hl seq
  have Hsm := Lib.hid hsm
  clear hsm
  cases hs : small10 l with
  | false =>
    rw [hs] at Hsm
    clear hs
    go_wp2_with fail; (with_reducible refine (Hsm.out).mono ?_); rintro e w1 ⟨rfl, hb1⟩
    go_wp2_with fail; (with_reducible refine (awake_any _).mono ?_); rintro e w2 ⟨rfl, hb2⟩
    go_wp2
    go_ret
    exact ⟨rfl, hb0.trans ((bnext hb1 hb2).mono hb0.size)⟩
  | true =>
    rw [hs] at Hsm
    clear hs
    go_wp2_with fail; (with_reducible refine (Hsm.out).mono ?_); rintro e w1 ⟨rfl, hb1⟩
    have e0 := s0 _ hb1
    have e1 := s1 _ hb1
    cases hr : batRight seq l with
    | false =>
      have hc := batcheck (c := c) (HO.out _ hb1) hl seq 100 (by rw [hr, if_neg (by decide)])
      have Hc := Lib.hid hc
      clear hc hr
      go_wp2_with fail; (with_reducible refine (Hc.out).mono ?_); rintro e w2 ⟨rfl, hb2⟩
      go_wp2_with fail; (with_reducible refine (awake_any _).mono ?_); rintro e w3 ⟨rfl, hb3⟩
      go_wp2
      go_ret
      exact ⟨rfl, hb0.trans ((bnext (bnext hb1 hb2) hb3).mono hb0.size)⟩
    | true =>
      have Hr := Lib.hid hr
      obtain ⟨hall, h1, h2, h3, h4⟩ := batRight_all hr
      have Hall := Lib.hid hall
      have hc := batcheck (c := c) (HO.out _ hb1) hl seq 0 (by rw [hr, if_pos rfl])
      have Hc := Lib.hid hc
      clear hc hr hall
      go_wp2_with fail; (with_reducible refine (Hc.out).mono ?_); rintro e w2 ⟨rfl, hb2⟩
      have B2 := bnext hb1 hb2
      clear e0 e1
      have e0 := s0 _ B2
      have e1 := s1 _ B2
      have hk := batkeys (c := c) (HO.out _ B2) hl seq Hr.out
      have Hk := Lib.hid hk
      clear hk
      go_wp2_with fail; (with_reducible refine (Hk.out).mono ?_); rintro e w3 ⟨v3, rfl, ho3, hb3⟩
      have B3 := bnext B2 hb3
      obtain ⟨g, off', c3, rfl, hkc⟩ := key_cells ho3 (by omega)
      have Hkc := Lib.hid hkc
      clear hkc ho3 e0 e1
      have Bg := bnext_grow B3
      have HO' := HO.out
      go_upto_region 4 with fail
      refine wp_region_quiet_below (by kernel_rfl) (by kernel_rfl) ?_; (repeat (go_big_quiet_step ((go_at_call 13; (with_reducible refine Calls.regrown_of (batlast_ok (c := c) (HO' _ (Bg _ _)) hl seq Hr.out)))))); refine wpQuiet_nil ?_; rintro _ ⟨pq, rfl⟩
      go_upto_region 6 with fail
      refine gen_wp (fun w' => Below w0.heap.size w0 w' ∧ KeyCells w' g off' seq l) ⟨Bg _ _, Hkc.out.below (below_regrown w3 _ _)⟩ ?_
      rintro wA ⟨BA, hkA⟩
      have HkA := Lib.hid hkA
      clear hkA Bg HO' Hkc B3 hb3 B2 hb2 hb1 Hk Hc Hsm
      go_wp2
      go_loopw [36] (fun i wr => ∃ k : Nat, k ≤ l.length ∧ i = .int .i64 k ∧ Below wA.heap.size wA wr) (fun i _ => l.length - (intOf i).toNat)
      case atStart => exact ⟨0, Nat.zero_le _, rfl, Below.refl _ _⟩
      case round =>
        obtain ⟨k, hk, rfl, hbr⟩ := hrel
        by_cases hlt : k < l.length
        · obtain ⟨d0, d1, d2⟩ := HkA.out.below hbr k hlt
          have BR := bnext BA hbr
          obtain ⟨b, off, rfl, f0, f1, f2⟩ := H.out.cells (hb0.trans (BR.mono hb0.size)) k hlt
          have hop := batRight_op (Hall.out _ (List.getElem_mem hlt))
          generalize l[k] = x at *
          obtain ⟨hx1, hx2, hx3, hx4⟩ := hop
          go_upto_region 9 with fail
          refine gen_wp (fun w' => Below wr.heap.size wr w' ∧ w'.cell? ⟨wr.heap.size, 0, none⟩ = some (.string x.key) ∧ w'.cell? ⟨wr.heap.size, 1, none⟩ = some (.int .i64 (seq + k)) ∧ w'.cell? ⟨wr.heap.size, 2, none⟩ = some (.int .i64 x.kind)) ?_ ?_
          · refine ⟨?_, ?_, ?_, ?_⟩
            · (repeat first | exact Below.refl _ _ | refine Below.drew ?_ | refine Below.alloc ?_ (by simp <;> omega) _ | refine Below.setCell ?_ (by simp <;> omega) _)
            all_goals go_simp
          rintro w5 ⟨hb5, p0, p1, p2⟩
          have B5 := bnext BR hb5
          have t0 := cell_next p0
          have t1 := cell_next p1
          have t2 := cell_next p2
          have t3 := cell_next (s0 _ B5)
          have t4 := cell_next (s1 _ B5)
          have t5 := cell_next (cell_next f0 _ hb5)
          have t6 := cell_next (cell_next f1 _ hb5)
          have t7 := cell_next (cell_next f2 _ hb5)
          have Bq := bnext_grow (Below.refl w5.heap.size w5)
          clear p0 p1 p2 f0 f1 f2 s0 s1 d0 d1 d2
          refine wp_region_quiet_below (by kernel_rfl) (by kernel_rfl) ?_; (repeat (go_big_quiet_step ((go_at_call 15; (with_reducible refine Calls.regrown_of (keycheck_ok x.key (seq + k) x.kind _ hx3 hx4 (by omega) (by omega) hx1 hx2)))))); refine wpQuiet_nil ?_; rintro _ ⟨pq, rfl⟩
          go_wp2
          go_roundw
          case rel => exact ⟨k + 1, by omega, by go_num, bnext hbr (bnext hb5 (Bq _ _))⟩
          case measure => simp [intOf]; omega
        · have BR := bnext BA hbr
          go_wp2_with fail
          with_reducible refine (awake_any _).mono ?_
          rintro e w6 ⟨rfl, hb6⟩
          go_wp2
          go_ret
          exact ⟨rfl, hb0.trans ((bnext BR hb6).mono hb0.size)⟩
end Go.Proofs.Ytmgifejmheoddaa
