/- Get, Next, Prev, Floor, First. -/
import Derived.Test.YthpafhimmhacfaaSkE
namespace Go.Proofs.Ythpafhimmhacfaa
open Go.RowKit
set_option linter.unusedVariables false
set_option linter.unusedSimpArgs false

/-- the place of a key, or the head -/
def fnd (T : List (SE Int)) (c : Nat) (k : Int) : Nat := if h : c < T.length then (if T[c].key = k then c else 0) else 0
theorem fnd_lt {T : List (SE Int)} (c : Nat) (k : Int) (h0 : 0 < T.length) : fnd T c k < T.length := by
  unfold fnd; split
  · split <;> omega
  · exact h0
theorem find_pl {w : World} {B p : Nat} {v : Value} {T : List (SE Int)} (h : SK 71 74 (.int .i64) w B p v T) (hr : TRise ilt T) (hl : T.length ≤ 1000000) (hht : ∀ j (hj : j < T.length), 0 < T[j].ht) (k : Int) (c : Nat) (hc : CutAt ilt T k c) (h0 : fnd T c k < T.length) :
    Calls Try.prog 42 #[.pointer (some ⟨p, 0, none⟩), .int .i64 k] w fun e w' => e = .returned (.int .i64 (T[fnd T c k].id : Nat)) ∧ Below w.heap.size w w' := by
  obtain ⟨hp0, hh0, hid0⟩ := level_room h
  refine find_ii h hr hl hht k c hc _ ?_
  by_cases hlt : c < T.length
  · by_cases hk : T[c].key = k
    · have e : fnd T c k = c := by unfold fnd; rw [dif_pos hlt, if_pos hk]
      exact .inl ⟨hlt, hk, by simp only [e]⟩
    · have e : fnd T c k = 0 := by unfold fnd; rw [dif_pos hlt, if_neg hk]
      exact .inr ⟨by simp only [e]; exact hid0, fun _ => hk⟩
  · have e : fnd T c k = 0 := by unfold fnd; rw [dif_neg hlt]
    exact .inr ⟨by simp only [e]; exact hid0, fun h => absurd h hlt⟩
set_option maxHeartbeats 2000000 in
theorem Get_ii {w : World} {B p : Nat} {v : Value} {T : List (SE Int)} (h : SK 71 74 (.int .i64) w B p v T) (hr : TRise ilt T) (hl : T.length ≤ 1000000) (hht : ∀ j (hj : j < T.length), 0 < T[j].ht) (k : Int) (c : Nat) (hc : CutAt ilt T k c) (rk ry : Int) (rz : Bool) (hR : TellIs T (fnd T c k) rk ry rz) :
    Calls Try.prog 16 #[.pointer (some ⟨p, 0, none⟩), .int .i64 k] w fun e w' => e = .returned (.tuple #[.int .i64 ry, .bool rz]) ∧ Below w.heap.size w w' := by
  obtain ⟨hi, h1, h2, h3⟩ := hR
  have hfi := find_pl h hr hl hht k c hc hi
  have hte := fun W (hB : Below w.heap.size w W) => tell_ii (h.below hB) hl _ hi ry h2 rz h3
  rw [h1] at hte
  have Hfi := Lib.hid hfi
  have Hte := Lib.hid hte
  clear hfi hte h h1 h2 h3 hc hr
  generalize T[fnd T c k].id = n at *
  go_enter Try.func16, Try.ntmps16
  go_wp2_with fail; (with_reducible refine (Hfi.out).mono ?_); rintro e w1 ⟨rfl, hb1⟩
  go_wp2_with fail; (with_reducible refine (Hte.out _ hb1).mono ?_); rintro e w2 ⟨rfl, hb2⟩
  go_wp2
  go_ret2
  exact ⟨rfl, bnext hb1 hb2⟩
set_option maxHeartbeats 2000000 in
theorem Height0_ii {w : World} {B p : Nat} {v : Value} {T : List (SE Int)} (h : SK 71 74 (.int .i64) w B p v T) (hr : TRise ilt T) (hl : T.length ≤ 1000000) (hht : ∀ j (hj : j < T.length), 0 < T[j].ht) (k : Int) (c : Nat) (hc : CutAt ilt T k c) (hne : ∀ hlt : c < T.length, T[c].key ≠ k) :
    Calls Try.prog 24 #[.pointer (some ⟨p, 0, none⟩), .int .i64 k] w fun e w' => e = .returned (.int .i64 0) ∧ Below w.heap.size w w' := by
  have hfi := find_ii h hr hl hht k c hc 0 (.inr ⟨rfl, hne⟩)
  have Hfi := Lib.hid hfi
  clear hfi h hc hr hne
  go_enter Try.func24, Try.ntmps24
  go_wp2_with fail; (with_reducible refine (Hfi.out).mono ?_); rintro e w1 ⟨rfl, hb1⟩
  go_wp2
  go_ret
  exact ⟨rfl, hb1⟩
set_option maxRecDepth 100000 in
set_option maxHeartbeats 2000000 in
theorem Prev_ii {w : World} {B p : Nat} {v : Value} {T : List (SE Int)} (h : SK 71 74 (.int .i64) w B p v T) (hr : TRise ilt T) (hl : T.length ≤ 1000000) (hht : ∀ j (hj : j < T.length), 0 < T[j].ht) (k : Int) (c : Nat) (hc : CutAt ilt T k c) (rk ry : Int) (rz : Bool) (hR : TellIs T (c - 1) rk ry rz) :
    Calls Try.prog 36 #[.pointer (some ⟨p, 0, none⟩), .int .i64 k] w fun e w' => e = .returned (.tuple #[.int .i64 rk, .int .i64 ry, .bool rz]) ∧ Below w.heap.size w w' := by
  obtain ⟨h0, hh0, _⟩ := level_room h
  obtain ⟨bs, hbs⟩ := found_some (lt := ilt) (k := k) h0 hh0 0 (by decide)
  have hbl : bs.length = 12 := by have := hbs.1; omega
  have hbe := before_ii' h hr hl k _ hbs
  obtain ⟨b0, b1, b2, b3, b4, b5, b6, b7, b8, b9, b10, b11, rfl⟩ := twelve hbl
  obtain ⟨i, hi, hp, hbi⟩ := hbs.2 0 (by simp)
  have hbi : b0 = T[i].id := hbi
  have hic := pred_zero hc hht hp
  obtain ⟨hi2, h1, h2, h3⟩ := hR
  have hte := fun W (hB : Below w.heap.size w W) => tell_ii (h.below hB) hl _ hi2 ry h2 rz h3
  have e : c - 1 = i := by omega
  have e2 : T[c - 1].id = b0 := by simp only [e]; exact hbi.symm
  rw [h1, e2] at hte
  have Hbe := Lib.hid hbe
  have Hte := Lib.hid hte
  have i0 : ∀ w, (Instr.index 75 (.agg (bvals [b0, b1, b2, b3, b4, b5, b6, b7, b8, b9, b10, b11]).toArray) (.int .i64 0)).run Try.prog w = .ok (.int .i64 (b0 : Nat)) w := fun _ => by first | kernel_rfl | rfl
  clear hic hc hp hbi hbs hr hbl hbe hte h e e2 h1 h2 h3
  go_enter Try.func36, Try.ntmps36
  go_wp2_with fail; (with_reducible refine (Hbe.out).mono ?_); rintro e w1 ⟨rfl, hb1⟩
  go_wp2_with fail; (with_reducible refine (Hte.out _ hb1).mono ?_); rintro e w2 ⟨rfl, hb2⟩
  go_wp2
  go_ret3
  exact ⟨rfl, bnext hb1 hb2⟩
set_option maxHeartbeats 2000000 in
theorem Floor_ii {w : World} {B p : Nat} {v : Value} {T : List (SE Int)} (h : SK 71 74 (.int .i64) w B p v T) (hr : TRise ilt T) (hl : T.length ≤ 1000000) (hht : ∀ j (hj : j < T.length), 0 < T[j].ht) (k : Int) (c : Nat) (hc : CutAt ilt T k c) (rk ry : Int) (rz : Bool) (hR : TellIs T (if fnd T c k = 0 then c - 1 else c) rk ry rz) :
    Calls Try.prog 14 #[.pointer (some ⟨p, 0, none⟩), .int .i64 k] w fun e w' => e = .returned (.tuple #[.int .i64 rk, .int .i64 ry, .bool rz]) ∧ Below w.heap.size w w' := by
  obtain ⟨h0, hh0, hid0⟩ := level_room h
  have hfl := fnd_lt c k h0
  have hfi := find_pl h hr hl hht k c hc hfl
  by_cases hf : fnd T c k = 0
  · rw [if_pos hf] at hR
    have hpr := fun W (hB : Below w.heap.size w W) => Prev_ii (h.below hB) hr hl hht k c hc rk ry rz hR
    simp only [hf, hid0] at hfi
    have Hfi := Lib.hid hfi
    have Hpr := Lib.hid hpr
    clear hfi hpr hR h hc hr hf
    go_enter Try.func14, Try.ntmps14
    go_wp2_with fail; (with_reducible refine (Hfi.out).mono ?_); rintro e w1 ⟨rfl, hb1⟩
    go_wp2_with fail; (with_reducible refine (Hpr.out _ hb1).mono ?_); rintro e w2 ⟨rfl, hb2⟩
    go_wp2
    go_ret3
    exact ⟨rfl, bnext hb1 hb2⟩
  · rw [if_neg hf] at hR
    have e : fnd T c k = c := by
      unfold fnd at hf ⊢
      by_cases hlt : c < T.length
      · rw [dif_pos hlt] at hf ⊢
        by_cases hk : T[c].key = k
        · rw [if_pos hk]
        · rw [if_neg hk] at hf; exact absurd rfl hf
      · rw [dif_neg hlt] at hf; exact absurd rfl hf
    obtain ⟨hi2, h1, h2, h3⟩ := hR
    have hte := fun W (hB : Below w.heap.size w W) => tell_ii (h.below hB) hl _ hi2 ry h2 rz h3
    simp only [e] at hfi
    rw [h1] at hte
    have hne : T[c].id ≠ 0 := fun e2 => by
      have := h.ids 0 c h0 hi2 (by rw [hid0, e2])
      omega
    have hn1 : ((T[c].id : Int) != 0) = true := by rw [bne_iff_ne]; omega
    have hn2 : ((T[c].id : Int) == 0) = false := by rw [beq_eq_false_iff_ne]; omega
    have Hfi := Lib.hid hfi
    have Hte := Lib.hid hte
    clear hfi hte h hc hr hf h1 h2 h3 hne
    generalize T[c].id = n at *
    go_enter Try.func14, Try.ntmps14
    go_wp2_with fail; (with_reducible refine (Hfi.out).mono ?_); rintro e w1 ⟨rfl, hb1⟩
    go_wp2_with fail; (with_reducible refine (Hte.out _ hb1).mono ?_); rintro e w2 ⟨rfl, hb2⟩
    go_wp2
    go_ret3
    exact ⟨rfl, bnext hb1 hb2⟩
set_option maxHeartbeats 2000000 in
theorem First_ii {w : World} {B p : Nat} {v : Value} {T : List (SE Int)} (h : SK 71 74 (.int .i64) w B p v T) (hl : T.length ≤ 1000000) (hht : ∀ j (hj : j < T.length), 0 < T[j].ht) (rk ry : Int) (rz : Bool) (hR : TellIs T (if 1 < T.length then 1 else 0) rk ry rz) :
    Calls Try.prog 40 #[.pointer (some ⟨p, 0, none⟩)] w fun e w' => e = .returned (.tuple #[.int .i64 rk, .int .i64 ry, .bool rz]) ∧ Below w.heap.size w w' := by
  obtain ⟨h0, hh0, hid0⟩ := level_room h
  obtain ⟨g, cv, hv, hc1, hc2, hid, k0, d0, d1, d2, dn⟩ := h.node 0 h0
  have hd := dn 0 (hht 0 h0)
  rw [Nat.zero_add, next_zero 1 hht] at hd
  obtain ⟨hi2, h1, h2, h3⟩ := hR
  have hte := fun W (hB : Below w.heap.size w W) => tell_ii (h.below hB) hl _ hi2 ry h2 rz h3
  have e : (if h : 1 < T.length then T[1].id else 0 : Nat) = (T[if 1 < T.length then 1 else 0]'hi2).id := by
    by_cases hlt : 1 < T.length
    · rw [dif_pos hlt]; simp only [if_pos hlt]
    · rw [dif_neg hlt]; simp only [if_neg hlt]; exact hid0.symm
  rw [e] at hd
  rw [h1] at hte
  rw [hid0] at d2
  have hti := hht 0 h0
  unfold maxLen at hc2
  have Hte := Lib.hid hte
  have htI : (0 : Int) < (T[0].ht : Nat) := by omega
  have hlI : (0 : Int) < (T.length : Nat) := by omega
  have hb0 := Below.refl w.heap.size w
  clear hte h h1 h2 h3 e dn d0 d1 hid
  generalize (T[if 1 < T.length then 1 else 0]'hi2).id = n at *
  go_enter Try.func40, Try.ntmps40
  go_wp2_with fail; (with_reducible refine (Hte.out _ hb0).mono ?_); rintro e w2 ⟨rfl, hb2⟩
  go_wp2
  go_ret3
  exact ⟨rfl, hb2⟩
end Go.Proofs.Ythpafhimmhacfaa
