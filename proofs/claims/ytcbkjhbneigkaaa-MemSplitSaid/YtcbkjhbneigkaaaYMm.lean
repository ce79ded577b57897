/- Chapter 11: a table in memory; New, Last, Len, Size. -/
import Derived.Test.YtcbkjhbneigkaaaYMp
import Derived.Test.YtcbkjhbneigkaaaYSkss4
import Derived.Test.YtcbkjhbneigkaaaYIkChecks
import Derived.Test.YtcbkjhbneigkaaaYIkOrders
import Derived.Test.YtcbkjhbneigkaaaYRef03
namespace Go.Proofs.Ytcbkjhbneigkaaa
open Go.RowKit
set_option linter.unusedVariables false
set_option linter.unusedSimpArgs false

/-- the table at block t, its list at p with the blocks F -/
structure TB (w : World) (B t p : Nat) (F : Nat → Prop) (M : List ME) (last : Int) : Prop where
  box : w.heap[t]? = some (.cells #[.pointer (some ⟨p, 0, none⟩), .int .i64 (msz M : Nat), .int .i64 last] 68 (0, 0))
  list : ∃ L, ss.LI w B p F L ∧ Same11 L M
  low : B ≤ t
  apart : ¬ F t
  inv : MInv M last
def GT (t : Nat) (F : Nat → Prop) (k : Nat) : Prop := k = t ∨ F k
theorem TB.chg {w w' : World} {B t p : Nat} {F G : Nat → Prop} {M : List ME} {last : Int} (h : TB w B t p F M last) (hc : Chg G w w') (hd : ∀ k, GT t F k → ¬ G k) : TB w' B t p F M last := by
  obtain ⟨L, hL, hs⟩ := h.list
  exact ⟨blk_chg h.box hc (hd t (.inl rfl)), ⟨L, hL.chg hc fun k hk => hd k (.inr hk), hs⟩, h.low, h.apart, h.inv⟩
theorem TB.below {w w' : World} {B t p : Nat} {F : Nat → Prop} {M : List ME} {last : Int} (h : TB w B t p F M last) (hb : Below w.heap.size w w') : TB w' B t p F M last :=
  h.chg (G := fun _ => False) (Chg.of_below hb) fun _ _ e => e
theorem TB.ge {w : World} {B t p : Nat} {F : Nat → Prop} {M : List ME} {last : Int} (h : TB w B t p F M last) : ∀ k, GT t F k → B ≤ k ∧ k < w.heap.size := by
  obtain ⟨L, hL, hs⟩ := h.list
  rintro k (rfl | hk)
  · exact ⟨h.low, blk_lt h.box⟩
  · exact hL.ge k hk
theorem TB.room {w : World} {B t p : Nat} {F : Nat → Prop} {M : List ME} {last : Int} (h : TB w B t p F M last) : B ≤ w.heap.size := by
  have := h.low; have := blk_lt h.box; omega
theorem mcell_three {w : World} {t : Nat} {a b c : Value} {e : TypeId} (h : w.heap[t]? = some (.cells #[a, b, c] e (0, 0))) :
    w.cell? ⟨t, 0, none⟩ = some a ∧ w.cell? ⟨t, 1, none⟩ = some b ∧ w.cell? ⟨t, 2, none⟩ = some c ∧ (∀ j, w.frozen? ⟨t, j, none⟩ = false) := by
  refine ⟨?_, ?_, ?_, ?_⟩
  · rw [cell_of_row _ _ _ _ _ _ h]; rfl
  · rw [cell_of_row _ _ _ _ _ _ h]; rfl
  · rw [cell_of_row _ _ _ _ _ _ h]; rfl
  · intro j
    unfold World.frozen?
    simp [h]
theorem mcell_four {w : World} {t : Nat} {a b c d : Value} {e : TypeId} (h : w.heap[t]? = some (.cells #[a, b, c, d] e (0, 0))) :
    w.cell? ⟨t, 0, none⟩ = some a ∧ w.cell? ⟨t, 1, none⟩ = some b ∧ w.cell? ⟨t, 2, none⟩ = some c ∧ w.cell? ⟨t, 3, none⟩ = some d ∧ (∀ j, w.frozen? ⟨t, j, none⟩ = false) := by
  refine ⟨?_, ?_, ?_, ?_, ?_⟩
  · rw [cell_of_row _ _ _ _ _ _ h]; rfl
  · rw [cell_of_row _ _ _ _ _ _ h]; rfl
  · rw [cell_of_row _ _ _ _ _ _ h]; rfl
  · rw [cell_of_row _ _ _ _ _ _ h]; rfl
  · intro j
    unfold World.frozen?
    simp [h]
theorem mcells_new {w : World} {a b c d : Value} {e : TypeId} (o : Obj) : ((w.alloc (.cells #[a, b, c, d] e)).alloc o).drew.heap[w.heap.size]? = some (.cells #[a, b, c, d] e (0, 0)) := by
  show ((w.alloc (.cells #[a, b, c, d] e)).alloc o).heap[w.heap.size]? = _
  rw [Below.heap_alloc _ _ _ (by simp)]
  exact heap_alloc_new w _
theorem mstored4 {w : World} {t : Nat} {a b c d : Value} {e : TypeId} (h : w.heap[t]? = some (.cells #[a, b, c, d] e (0, 0))) (u s k v : Value) (o : Obj) :
    (((((w.setCell ⟨t, 0, none⟩ u).setCell ⟨t, 1, none⟩ s).setCell ⟨t, 2, none⟩ k).setCell ⟨t, 3, none⟩ v).alloc o).heap[t]? = some (.cells #[u, s, k, v] e (0, 0)) := by
  rw [Below.heap_alloc]
  · simp only [World.setCell, Array.getElem?_modify, if_true, h]; rfl
  · have := blk_lt h
    simp only [World.setCell, Array.size_modify]; exact this
theorem mdataLen (u : ByteArray) : u.data.toList.length = u.size := by rw [Array.length_toList]; rfl
theorem mrow_bytes {w : World} {u : ByteArray} {cap g : Nat} {e : TypeId} {fr : Nat × Nat} (hc : u.size ≤ cap) (hh : w.heap[g]? = some (.cells (bytesRow u cap) e fr)) : RB w (.slice (some ⟨g, 0, none⟩) u.size cap) u.data.toList := by
  have hl := mdataLen u
  refine ⟨_, cap, by rw [hl], by rw [hl]; exact hc, fun _ => ⟨_, 0, rfl, fun j hj => ?_⟩⟩
  rw [hl] at hj
  rw [Nat.zero_add, cell_of_row _ _ _ _ _ _ hh]
  unfold bytesRow
  have hj' : j < u.data.size := hj
  rw [Array.getElem?_append_left (by simpa using hj')]
  rw [Array.getElem?_map, Array.getElem?_eq_getElem hj']
  simp [bv]
theorem mnew_drew {w : World} {o : Obj} {g : Nat} (h : g = w.heap.size) : (w.alloc o).drew.heap[g]? = some o := by subst h; exact heap_alloc_new w o
/-- of a key's bytes: the key that they are -/
theorem mparse_new {w : World} {u : ByteArray} {s k : Int} (hr : keyRight u s k = true) {g cap : Nat} {fr : Nat × Nat} (hg : w.heap[g]? = some (.cells (bytesRow (mkb u s k) cap) 5 fr)) (hc : (mkb u s k).size ≤ cap) :
    Calls Try.prog 50 #[.slice (some ⟨g, 0, none⟩) (mkb u s k).size cap] w (ParseYes w u s k) := by
  have hb := mrow_bytes hc hg
  rw [mkb_list] at hb
  have h1 := right_facts hr
  have h2 := keyBytes_len u.data.toList s k
  have h3 := mdataLen u
  exact parse_right hr hb (by omega)
set_option maxRecDepth 100000 in
set_option maxHeartbeats 2000000 in
theorem mentry {u : ByteArray} {s k : Int} (hr : keyRight u s k = true) (v : ByteArray) (w : World) :
    Calls Try.prog 32 #[.string (mkb u s k), .string v] w fun e w' => e = .returned (.agg #[.string u, .int .i64 s, .int .i64 k, .string v]) ∧ Below w.heap.size w w' := by
  have hconv := fun (w : World) => run_bytes_of_string (P := Try.prog) w 9 72 5 (mkb u s k) Try.underlying9 Try.underlying72 Try.underlying5
  have HP : Hid (∀ (W : World) g cap fr, W.heap[g]? = some (.cells (bytesRow (mkb u s k) cap) 5 fr) → (mkb u s k).size ≤ cap → Calls Try.prog 50 #[.slice (some ⟨g, 0, none⟩) (mkb u s k).size cap] W (ParseYes W u s k)) := Lib.hid fun W g cap fr hg hc => mparse_new hr hg hc
  clear hr
  generalize mkb u s k = b at *
  go_enter Try.func32, Try.ntmps32
  go_wp2_with fail
  with_reducible refine (HP.out _ _ _ (_, _) (mnew_drew ?hg) (grownCap_ge _ _ _ _)).mono ?_
  case hg => simp
  rintro e w1 ⟨rfl, hb1⟩
  have hz1 := hb1.size
  have B1 : Below w.heap.size w w1 := (by (repeat first | exact Below.refl _ _ | refine Below.drew ?_ | refine Below.alloc ?_ (by simp <;> omega) _ | refine Below.setCell ?_ (by simp <;> omega) _) : Below w.heap.size w (((w.alloc (.cells #[.string ⟨#[]⟩, .int .i64 0, .int .i64 0, .string ⟨#[]⟩] 36)).alloc _).drew)).trans (hb1.mono (by simp; omega))
  have b1 := (hb1.block w.heap.size (by simp; omega)).trans (mcells_new _)
  obtain ⟨e0, e1, e2, e3, ef⟩ := mcell_four b1
  simp at hz1
  have hz0 : w.heap.size < w1.heap.size := by omega
  have f0 := ef 0; have f1 := ef 1; have f2 := ef 2; have f3 := ef 3
  obtain ⟨r0, r1, r2, r3, _⟩ := mcell_four (mstored4 b1 (.string u) (.int .i64 s) (.int .i64 k) (.string v) (.cells #[.string u, .int .i64 s, .int .i64 k] 34))
  clear hb1 HP hconv b1 ef
  go_wp2
  refine bodyPost_ret (v := .agg #[.string u, .int .i64 s, .int .i64 k, .string v]) (by simp [results, Try.results32, go_sem, r0, r1, r2, r3]) rfl ?_
  refine ⟨rfl, ?_⟩
  (repeat first | exact B1 | refine Below.drew ?_ | refine Below.alloc ?_ (by simp <;> omega) _ | refine Below.setCell ?_ (by simp <;> omega) _)
def entV (e : ME) : Value := .agg #[.string e.u, .int .i64 e.s, .int .i64 e.k, .string e.v]
def ent0 : Value := .agg #[.string ⟨#[]⟩, .int .i64 0, .int .i64 0, .string ⟨#[]⟩]
theorem TB.cells {w : World} {B t p : Nat} {F : Nat → Prop} {M : List ME} {last : Int} (h : TB w B t p F M last) :
    w.cell? ⟨t, 0, none⟩ = some (.pointer (some ⟨p, 0, none⟩)) ∧ w.cell? ⟨t, 1, none⟩ = some (.int .i64 (msz M : Nat)) ∧ w.cell? ⟨t, 2, none⟩ = some (.int .i64 last) ∧ (∀ j, w.frozen? ⟨t, j, none⟩ = false) := mcell_three h.box
theorem TB.c0 {w : World} {B t p : Nat} {F : Nat → Prop} {M : List ME} {last : Int} (h : TB w B t p F M last) : w.cell? ⟨t, 0, none⟩ = some (.pointer (some ⟨p, 0, none⟩)) := h.cells.1
theorem TB.c1 {w : World} {B t p : Nat} {F : Nat → Prop} {M : List ME} {last : Int} (h : TB w B t p F M last) : w.cell? ⟨t, 1, none⟩ = some (.int .i64 (msz M : Nat)) := h.cells.2.1
theorem TB.c2 {w : World} {B t p : Nat} {F : Nat → Prop} {M : List ME} {last : Int} (h : TB w B t p F M last) : w.cell? ⟨t, 2, none⟩ = some (.int .i64 last) := h.cells.2.2.1
set_option maxHeartbeats 1000000 in
theorem TB.new (w : World) : Calls Try.prog 8 #[] w fun e w' => ∃ t p F, e = .returned (.pointer (some ⟨t, 0, none⟩)) ∧ TB w' w.heap.size t p F [] (-1) ∧ Below w.heap.size w w' := by
  have hn := ss.LI.new w
  go_enter Try.func8, Try.ntmps8
  go_wp2_with fail; (with_reducible refine (hn).mono ?_); rintro e w1 ⟨p, F, rfl, hL, hb⟩
  have hz := hb.size
  have HL := Lib.hid hL
  clear hL
  go_wp2
  go_ret
  have hL := HL.out
  refine ⟨_, _, _, rfl, ⟨heap_alloc_new w1 _, ⟨[], hL.below ((Below.refl _ w1).alloc (Nat.le_refl _) _), rfl⟩, hz, fun hf => ?_, MInv.nil⟩, hb.alloc hz _⟩
  have := (hL.ge _ hf).2
  omega
theorem TB.last {w : World} {B t p : Nat} {F : Nat → Prop} {M : List ME} {last : Int} (h : TB w B t p F M last) :
    Calls Try.prog 15 #[.pointer (some ⟨t, 0, none⟩)] w fun e w' => e = .returned (.int .i64 last) ∧ Below w.heap.size w w' := by
  have c2 := h.c2
  clear h
  go_enter Try.func15, Try.ntmps15
  go_wp2
  go_ret
  exact ⟨rfl, Below.refl _ _⟩
theorem TB.size {w : World} {B t p : Nat} {F : Nat → Prop} {M : List ME} {last : Int} (h : TB w B t p F M last) :
    Calls Try.prog 35 #[.pointer (some ⟨t, 0, none⟩)] w fun e w' => e = .returned (.int .i64 (msz M : Nat)) ∧ Below w.heap.size w w' := by
  have c1 := h.c1
  clear h
  go_enter Try.func35, Try.ntmps35
  go_wp2
  go_ret
  exact ⟨rfl, Below.refl _ _⟩
theorem TB.len {w : World} {B t p : Nat} {F : Nat → Prop} {M : List ME} {last : Int} (h : TB w B t p F M last) (hl : M.length ≤ 999999) :
    Calls Try.prog 16 #[.pointer (some ⟨t, 0, none⟩)] w fun e w' => e = .returned (.int .i64 (M.length : Nat)) ∧ Below w.heap.size w w' := by
  have c0 := h.c0
  obtain ⟨L, hL, hs⟩ := h.list
  have hle := hs.len
  have hc := ss.LI.len hL (by omega)
  rw [hle] at hc
  have HC := Lib.hid hc
  clear h hL hs hle hc
  go_enter Try.func16, Try.ntmps16
  go_wp2_with fail; (with_reducible refine (HC.out).mono ?_); rintro e w1 ⟨rfl, rfl⟩
  go_wp2
  go_ret
  exact ⟨rfl, Below.refl _ _⟩
/-- the list's answers, told of the table's entries -/
theorem ceil_in {w : World} {B p : Nat} {F : Nat → Prop} {L : List (E3 ByteArray ByteArray)} {M : List ME} (h : ss.LI w B p F L) (hs : Same11 L M) (hl : M.length ≤ 999999) (k : ByteArray) (hc : mcut k M < M.length) :
    Calls Try.prog 31 #[.pointer (some ⟨p, 0, none⟩), .string k] w fun e w' => e = .returned (.tuple #[.string (mkey M[mcut k M]), .string (M[mcut k M]).v, .bool true]) ∧ Below w.heap.size w w' := by
  have hle := hs.len
  have e1 : ss.ceilE L k = mcut k M := hs.cut k
  have hc2 : mcut k M < L.length := by omega
  refine (ss.LI.ceil h (by omega) k).mono fun e w' ⟨h1, h2⟩ => ⟨?_, h2⟩
  rw [h1, e1]
  obtain ⟨q1, q2⟩ := hs.at _ hc2 hc
  unfold ss.tkE ss.tvE ss.tbE
  rw [dif_pos hc2, dif_pos hc2, decide_eq_true hc2, q1, q2]
theorem ceil_out {w : World} {B p : Nat} {F : Nat → Prop} {L : List (E3 ByteArray ByteArray)} {M : List ME} (h : ss.LI w B p F L) (hs : Same11 L M) (hl : M.length ≤ 999999) (k : ByteArray) (hc : mcut k M = M.length) :
    Calls Try.prog 31 #[.pointer (some ⟨p, 0, none⟩), .string k] w fun e w' => e = .returned (.tuple #[.string ByteArray.empty, .string ByteArray.empty, .bool false]) ∧ Below w.heap.size w w' := by
  have hle := hs.len
  have e1 : ss.ceilE L k = mcut k M := hs.cut k
  refine (ss.LI.ceil h (by omega) k).mono fun e w' ⟨h1, h2⟩ => ⟨?_, h2⟩
  rw [h1, e1]
  have hc2 : ¬ mcut k M < L.length := by omega
  unfold ss.tkE ss.tvE ss.tbE
  rw [dif_neg hc2, dif_neg hc2, decide_eq_false hc2]
theorem mcut_key {M : List ME} (hok : ∀ e ∈ M, MOk e) (hr : MRise M) (i : Nat) (hi : i < M.length) : mcut (mkey M[i]) M = i := by
  have hle := mcut_le (mkey M[i]) M
  rcases Nat.lt_trichotomy (mcut (mkey M[i]) M) i with h | h | h
  · have h0 := mcut_at (mkey M[i]) M (by omega)
    have hb : blt (mkey M[mcut (mkey M[i]) M]) (mkey M[i]) = decide (mcmp M[mcut (mkey M[i]) M] M[i] < 0) := blt_mkb (hok _ (List.getElem_mem (by omega))).1 (hok _ (List.getElem_mem hi)).1
    rw [hb, decide_eq_true (mrise_at hr _ _ (by omega) hi h)] at h0
    cases h0
  · exact h
  · have h0 := mcut_below (mkey M[i]) M i hi h
    have hb : blt (mkey M[i]) (mkey M[i]) = false := blt_ord.irrefl _
    rw [hb] at h0; cases h0
theorem get_key {w : World} {B p : Nat} {F : Nat → Prop} {L : List (E3 ByteArray ByteArray)} {M : List ME} (h : ss.LI w B p F L) (hs : Same11 L M) (hl : M.length ≤ 999999) (hok : ∀ e ∈ M, MOk e) (hr : MRise M) (i : Nat) (hi : i < M.length) :
    Calls Try.prog 41 #[.pointer (some ⟨p, 0, none⟩), .string (mkey M[i])] w fun e w' => e = .returned (.tuple #[.string (M[i]).v, .bool true]) ∧ Below w.heap.size w w' := by
  have hle := hs.len
  have hi2 : i < L.length := by omega
  have hc : cutE blt (mkey M[i]) L = i := by rw [hs.cut, mcut_key hok hr i hi]
  obtain ⟨q1, q2⟩ := hs.at i hi2 hi
  have hh : ss.hI L (mkey M[i]) = true := by
    unfold ss.hI
    rw [hasE_true, hc]
    exact ⟨hi2, q1⟩
  have e1 : ss.getE L (mkey M[i]) = i := by
    unfold ss.getE ss.cI
    rw [if_pos hh, hc]
  refine (ss.LI.get h (by omega) (mkey M[i])).mono fun e w' ⟨h1, h2⟩ => ⟨?_, h2⟩
  rw [h1, e1]
  unfold ss.tvE ss.tbE
  rw [dif_pos hi2, decide_eq_true hi2, q2]
end Go.Proofs.Ytcbkjhbneigkaaa
