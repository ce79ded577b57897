/- AllocPlays: the table over a device with power that goes; the state. -/
import Derived.Test.YtcgjkgcafkcgoaaAr2
import Derived.Test.YtcgjkgcafkcgoaaAlp
import Derived.Test.YtcgjkgcafkcgoaaOp8
namespace Go.Proofs.Ytcgjkgcafkcgoaa
open Go.RowKit
set_option linter.unusedVariables false
set_option linter.unusedSimpArgs false

section
variable {w w' : World} {B p d : Nat} {H : Nat → Prop} {R Q : List Int} {D : Dv}
set_option maxHeartbeats 2000000 in
theorem AT.own_err (h : AT w B p d H R Q D) (z r : Int) (hz : ¬ (roleAt R z = 0 ∧ 1 ≤ r ∧ r ≤ 5)) :
    Calls Try.prog 10 #[.pointer (some ⟨p, 0, none⟩), .int .i64 z, .int .i64 r] w fun e w' => e = .returned (.int .i64 (if roleAt R z = -1 then 70 else 80)) ∧ w = w' := by
  have Hr := Lib.hid (h.role z)
  clear h
  generalize roleAt R z = y at *
  by_cases h1 : y = -1
  · subst h1
    go_enter Try.func10, Try.ntmps10
    go_wp2_with fail; (with_reducible refine (Hr.out).mono ?_); rintro e w ⟨rfl, rfl⟩
    go_wp2
    go_ret
    exact ⟨rfl, rfl⟩
  · have h1' : (y == -1) = false := by rw [beq_eq_false_iff_ne]; exact h1
    rw [if_neg h1]
    by_cases hu : 1 ≤ r ∧ r ≤ 5
    · have Hu := Lib.hid (used_any r w true (decide_eq_true hu))
      have h2' : (y == 0) = false := by rw [beq_eq_false_iff_ne]; intro e; exact hz ⟨e, hu.1, hu.2⟩
      have h3' : (y != 0) = true := by rw [bne, h2']; rfl
      clear h1 hz hu
      go_enter Try.func10, Try.ntmps10
      go_wp2_with fail; (with_reducible refine (Hr.out).mono ?_); rintro e w ⟨rfl, rfl⟩
      go_wp2_with fail; (with_reducible refine (Hu.out).mono ?_); rintro e w ⟨rfl, rfl⟩
      go_wp2
      go_ret
      exact ⟨rfl, rfl⟩
    · have Hu := Lib.hid (used_any r w false (decide_eq_false hu))
      clear h1 hz hu
      go_enter Try.func10, Try.ntmps10
      go_wp2_with fail; (with_reducible refine (Hr.out).mono ?_); rintro e w ⟨rfl, rfl⟩
      go_wp2_with fail; (with_reducible refine (Hu.out).mono ?_); rintro e w ⟨rfl, rfl⟩
      go_wp2
      go_ret
      exact ⟨rfl, rfl⟩
theorem AT.down (h : AT w B p d H R Q D) : Calls Try.prog 26 #[.pointer (some ⟨d, 0, none⟩)] w fun e w' => e = .returned (.bool D.down) ∧ w = w' := by
  obtain ⟨g, v, G, hT, hD, ha, hH⟩ := h
  exact hD.down
theorem AT.arm (h : AT w B p d H R Q D) (n : Int) (hn : -9223372036854775808 ≤ n ∧ n ≤ 9223372036854775807) :
    Calls Try.prog 27 #[.pointer (some ⟨d, 0, none⟩), .int .i64 n] w fun e w' => e = .returned (.tuple #[]) ∧ AOut w B p d H R Q (zarmd D n) w' := by
  obtain ⟨g, v, G, hT, hD, ha, hH⟩ := h
  refine (hD.arm n hn).mono ?_
  rintro e w' ⟨rfl, h2⟩
  exact ⟨rfl, AT.dev hT hD ha hH h2⟩
theorem AT.crash (h : AT w B p d H R Q D) :
    Calls Try.prog 28 #[.pointer (some ⟨d, 0, none⟩), .slice none 0 0] w fun e w' => e = .returned (.tuple #[]) ∧ AOut w B p d H R Q (zcrs D []) w' := by
  obtain ⟨g, v, G, hT, hD, ha, hH⟩ := h
  refine (hD.crash (ak := none) (n := 0) (ck := 0) (keep := []) (fun h => absurd h (by simp)) rfl (by simp) (fun h => absurd h (by simp)) rfl).mono ?_
  rintro e w' ⟨rfl, h2⟩
  exact ⟨rfl, AT.dev hT hD ha hH h2⟩
end
/-- a device of N zones that has done at most k commands -/
def DN (D : Dv) (N k : Nat) : Prop := D.n = N ∧ D.done ≤ k
section
variable {D : Dv} {N k : Nat}
theorem zcmd_dn (h : DN D N k) : DN (zcmd D).1 N (k + 1) := by
  unfold zcmd
  split
  · exact ⟨h.1, Nat.le_succ_of_le h.2⟩
  · exact ⟨h.1, Nat.succ_le_succ h.2⟩
theorem zapp_dn (h : DN D N k) (z : Int) (m : List UInt8) : DN (zapp D z m).1 N (k + 1) := by
  have hs : DN D N (k + 1) := ⟨h.1, Nat.le_succ_of_le h.2⟩
  unfold zapp
  split
  · exact hs
  · split
    · unfold zappA
      split
      · exact hs
      · split
        · exact hs
        · split
          · exact hs
          · exact zcmd_dn ⟨h.1, h.2⟩
    · exact hs
theorem zrst_dn (h : DN D N k) (z : Int) : DN (zrst D z).1 N (k + 1) := by
  unfold zrst
  split
  · exact ⟨h.1, Nat.le_succ_of_le h.2⟩
  · unfold zthen
    split
    · exact zcmd_dn h
    · exact zcmd_dn h
/-- a reset with power that may go -/
theorem zrst_law {n : Nat} (hn : n < D.n) (hA : n < D.A.length) : ((zrst D n).2 = 0 ∧ (zrst D n).1.down = false ∧ zst (zrst D n).1 n = 0) ∨ ((zrst D n).2 = 74 ∧ (zrst D n).1.down = true) := by
  cases hd : D.down with
  | true =>
    right
    have hz : zfnd D n = 74 := by unfold zfnd; rw [if_pos hd]
    unfold zrst
    rw [if_pos (by rw [hz]; decide)]
    exact ⟨hz, hd⟩
  | false =>
    have hz := zfnd_in hd hn
    unfold zrst
    rw [if_neg (by rw [hz]; simp)]
    unfold zthen
    by_cases h0 : D.left = 0
    · right
      rw [zcmd_off h0, if_neg (show ¬ ((74 : Int) = 0) by decide)]
      exact ⟨rfl, rfl⟩
    · left
      have e : zcmd D = ({ D with left := if 0 < D.left then D.left - 1 else D.left, done := D.done + 1 }, 0) := by unfold zcmd; rw [if_neg h0]
      rw [e, if_pos rfl]
      refine ⟨rfl, hd, ?_⟩
      unfold zst
      rw [dif_pos ⟨by omega, by simpa using hA⟩]
      simp
end
/-- a free zone that is not empty is put into the queue -/
theorem AInv.six {N : Nat} {R : List Int} {hs : List Bool} {Q : List Int} (h : AInv N R hs Q) (n : Nat) (hn : n < R.length) (h0 : R[n] = 0) : AInv N (R.set n 6) (hs.set n true) (Q ++ [(n : Int)]) := by
  have h1 := h.take n hn h0 1 (by decide)
  have h2 := h1.release n (by rw [List.length_set]; exact hn) (by rw [List.getElem_set_self]; decide)
  rw [List.set_set] at h2
  exact h2
theorem ainv_ql {N : Nat} {R : List Int} {hs : List Bool} {Q : List Int} (h : AInv N R hs Q) : Q.length ≤ N := by
  rw [h.cnt, ← h.len]; exact List.count_le_length
/-- the queue that a rebuild lays behind what is there -/
def rbq (D : Dv) (Q : List Int) (L : List Nat) : List Int := Q ++ (rbl D L).map fun (z : Nat) => (z : Int)
theorem rb_none {R : List Int} {D : Dv} {z : Nat} (h : R.getD z 0 ≠ 0) : rbl D (places R 0 (z + 1)) = rbl D (places R 0 z) := by
  rw [places_no (by rw [beq_eq_false_iff_ne]; exact h)]
theorem rb_empty {R : List Int} {D : Dv} {z : Nat} (h : R.getD z 0 = 0) (hs : ¬ 0 < zst D z) : rbl D (places R 0 (z + 1)) = rbl D (places R 0 z) := by
  rw [places_yes (by rw [h]; rfl), rbl_snoc, if_neg hs]
theorem rb_more {R : List Int} {D : Dv} {z : Nat} (h : R.getD z 0 = 0) (hs : 0 < zst D z) : rbl D (places R 0 (z + 1)) = rbl D (places R 0 z) ++ [z] := by
  rw [places_yes (by rw [h]; rfl), rbl_snoc, if_pos hs]
theorem rb_at {R : List Int} {D : Dv} {z : Nat} (hz : z < R.length) (h2 : z < (setAll R (rbl D (places R 0 z))).length) : (setAll R (rbl D (places R 0 z)))[z] = R[z] := by
  rw [setAll_at _ _ _ h2 hz, if_neg]
  intro h
  have := (List.mem_filter.1 h).1
  unfold places at this
  have := (List.mem_filter.1 this).1
  rw [List.mem_range] at this
  omega
/-- the two tables, the device, and the op's cells -/
def PJ (w0 w : World) (p d x g qb : Nat) (xk xz xn : Int) (R Q : List Int) (D : Dv) (R2 Q2 : List Int) : Prop :=
  ∃ H F, AT w w0.heap.size p d H R Q D ∧ XT w w0.heap.size x g F R2 Q2 ∧ (∀ k, H k → ¬ F k) ∧ ¬ H qb ∧ ¬ F qb ∧ (w.cell? ⟨qb, 0, none⟩ = some (.int .i64 xk) ∧ w.cell? ⟨qb, 1, none⟩ = some (.int .i64 xz) ∧ w.cell? ⟨qb, 2, none⟩ = some (.int .i64 xn)) ∧ Below w0.heap.size w0 w
section
variable {w0 w w' : World} {p d x g qb : Nat} {xk xz xn : Int} {R Q R' Q' : List Int} {D D' : Dv} {R2 Q2 R2' Q2' : List Int} {H F : Nat → Prop}
theorem cell_chgp {F : Nat → Prop} {w w' : World} {b j : Nat} {v : Value} (h : w.cell? ⟨b, j, none⟩ = some v) (hc : Chg F w w') (hn : ¬ F b) : w'.cell? ⟨b, j, none⟩ = some v :=
  (World.cell?_of_block (hc.block b (World.block_lt_of_cell? _ _ h) hn)).trans h
theorem PJ.tab (hA : AT w w0.heap.size p d H R Q D) (hX : XT w w0.heap.size x g F R2 Q2) (hd : ∀ k, H k → ¬ F k) (h1 : ¬ H qb) (h2 : ¬ F qb) (hc : w.cell? ⟨qb, 0, none⟩ = some (.int .i64 xk) ∧ w.cell? ⟨qb, 1, none⟩ = some (.int .i64 xz) ∧ w.cell? ⟨qb, 2, none⟩ = some (.int .i64 xn)) (hb : Below w0.heap.size w0 w) (ho : AOut w w0.heap.size p d H R' Q' D' w') : PJ w0 w' p d x g qb xk xz xn R' Q' D' R2 Q2 := by
  have hbo := ho.below hA.ge hA.room
  have hqz : qb < w.heap.size := World.block_lt_of_cell? _ _ hc.1
  obtain ⟨⟨H', hA', hH'⟩, hch⟩ := ho
  refine ⟨H', F, hA', hX.chg hch (fun k hk hh => hd k hh hk), fun k hk hf => ?_, fun hq => ?_, h2, ⟨cell_chgp hc.1 hch h1, cell_chgp hc.2.1 hch h1, cell_chgp hc.2.2 hch h1⟩, hb.trans hbo⟩
  · rcases hH' k hk with h | h
    · exact hd k h hf
    · have := (hX.ge k hf).2; omega
  · rcases hH' qb hq with h | h
    · exact h1 h
    · omega
theorem PJ.ref (hA : AT w w0.heap.size p d H R Q D) (hX : XT w w0.heap.size x g F R2 Q2) (hd : ∀ k, H k → ¬ F k) (h1 : ¬ H qb) (h2 : ¬ F qb) (hc : w.cell? ⟨qb, 0, none⟩ = some (.int .i64 xk) ∧ w.cell? ⟨qb, 1, none⟩ = some (.int .i64 xz) ∧ w.cell? ⟨qb, 2, none⟩ = some (.int .i64 xn)) (hb : Below w0.heap.size w0 w) (ho : XOut w w0.heap.size x g F R2' Q2' w') : PJ w0 w' p d x g qb xk xz xn R Q D R2' Q2' := by
  have hbo := ho.below hX.ge hX.room
  have hqz : qb < w.heap.size := World.block_lt_of_cell? _ _ hc.1
  obtain ⟨⟨F', hX', hF'⟩, hch⟩ := ho
  refine ⟨H, F', hA.chg hch hd, hX', fun k hk hf => ?_, h1, fun hq => ?_, ⟨cell_chgp hc.1 hch h2, cell_chgp hc.2.1 hch h2, cell_chgp hc.2.2 hch h2⟩, hb.trans hbo⟩
  · rcases hF' k hf with h | h
    · exact hd k hk h
    · have := (hA.ge k hk).2; omega
  · rcases hF' qb hq with h | h
    · exact h2 h
    · omega
theorem PJ.below (h : PJ w0 w p d x g qb xk xz xn R Q D R2 Q2) (hb : Below w.heap.size w w') : PJ w0 w' p d x g qb xk xz xn R Q D R2 Q2 := by
  obtain ⟨H, F, hA, hX, hd, h1, h2, hc, hb0⟩ := h
  exact ⟨H, F, hA.below hb, hX.below hb, hd, h1, h2, ⟨cell_next hc.1 _ hb, cell_next hc.2.1 _ hb, cell_next hc.2.2 _ hb⟩, hb0.trans (hb.mono hb0.size)⟩
theorem PJ.cells (h : PJ w0 w p d x g qb xk xz xn R Q D R2 Q2) : w.cell? ⟨qb, 0, none⟩ = some (.int .i64 xk) ∧ w.cell? ⟨qb, 1, none⟩ = some (.int .i64 xz) ∧ w.cell? ⟨qb, 2, none⟩ = some (.int .i64 xn) := by
  obtain ⟨H, F, hA, hX, hd, h1, h2, hc, hb0⟩ := h
  exact hc
theorem PJ.b (h : PJ w0 w p d x g qb xk xz xn R Q D R2 Q2) : Below w0.heap.size w0 w := by
  obtain ⟨H, F, hA, hX, hd, h1, h2, hc, hb0⟩ := h
  exact hb0
/-- a call of the program's table or device -/
theorem PJ.callA {f : FuncId} {args : Array Value} {v : Value} (h : PJ w0 w p d x g qb xk xz xn R Q D R2 Q2) (hc : ∀ H, AT w w0.heap.size p d H R Q D → Calls Try.prog f args w fun e w' => e = .returned v ∧ AOut w w0.heap.size p d H R' Q' D' w') : Calls Try.prog f args w fun e w' => e = .returned v ∧ PJ w0 w' p d x g qb xk xz xn R' Q' D' R2 Q2 := by
  obtain ⟨H, F, hA, hX, hd, h1, h2, hcs, hb0⟩ := h
  exact (hc H hA).mono fun e w' ⟨he, ho⟩ => ⟨he, PJ.tab hA hX hd h1 h2 hcs hb0 ho⟩
theorem PJ.callX {f : FuncId} {args : Array Value} {v : Value} (h : PJ w0 w p d x g qb xk xz xn R Q D R2 Q2) (hc : ∀ F, XT w w0.heap.size x g F R2 Q2 → Calls Try.prog f args w fun e w' => e = .returned v ∧ XOut w w0.heap.size x g F R2' Q2' w') : Calls Try.prog f args w fun e w' => e = .returned v ∧ PJ w0 w' p d x g qb xk xz xn R Q D R2' Q2' := by
  obtain ⟨H, F, hA, hX, hd, h1, h2, hcs, hb0⟩ := h
  exact (hc F hX).mono fun e w' ⟨he, ho⟩ => ⟨he, PJ.ref hA hX hd h1 h2 hcs hb0 ho⟩
end
theorem XT.take_at {w : World} {B x g : Nat} {F : Nat → Prop} {R Q : List Int} (h : XT w B x g F R Q) (r : Int) (hr : 1 ≤ r ∧ r ≤ 5) (n : Nat) (hn : n < R.length) (h0 : R[n] = 0) (hlow : ∀ i (hi : i < R.length), i < n → R[i] ≠ 0) :
    Calls Try.prog 23 #[.pointer (some ⟨x, 0, none⟩), .int .i64 r] w fun e w' => e = .returned (.tuple #[.int .i64 n, .int .i64 0]) ∧ XOut w B x g F (R.set n r) Q w' := by
  refine (h.take r hr).mono ?_
  rintro e w' (⟨_, _, hz⟩ | ⟨m, hm, rfl, hz, hm2, ho⟩)
  · exact absurd h0 (hz n hn)
  · obtain rfl : m = n := by
      rcases Nat.lt_trichotomy m n with h1 | h1 | h1
      · exact absurd hz (hlow m hm h1)
      · exact h1
      · exact absurd h0 (hm2 n hn h1)
    exact ⟨rfl, ho⟩
theorem XT.take_none {w : World} {B x g : Nat} {F : Nat → Prop} {R Q : List Int} (h : XT w B x g F R Q) (r : Int) (hr : 1 ≤ r ∧ r ≤ 5) (h0 : R.count 0 = 0) :
    Calls Try.prog 23 #[.pointer (some ⟨x, 0, none⟩), .int .i64 r] w fun e w' => e = .returned (.tuple #[.int .i64 0, .int .i64 81]) ∧ XOut w B x g F R Q w' := by
  refine (h.take r hr).mono ?_
  rintro e w' (⟨rfl, rfl, hz⟩ | ⟨m, hm, rfl, hz, hm2, ho⟩)
  · exact ⟨rfl, XOut.same h⟩
  · rw [List.count_eq_zero] at h0
    exact absurd (by rw [← hz]; exact List.getElem_mem hm) h0
/-- Take, of both -/
theorem take_both {N : Nat} {R : List Int} {hs : List Bool} {Q : List Int} (hI : AInv N R hs Q) (r : Int) : ∃ (zz er : Int) (R' : List Int) (hs' : List Bool), AInv N R' hs' Q ∧
    (∀ (w : World) (B p d : Nat) (H : Nat → Prop) (D : Dv), AT w B p d H R Q D → Calls Try.prog 11 #[.pointer (some ⟨p, 0, none⟩), .int .i64 r] w fun e w' => e = .returned (.tuple #[.int .i64 zz, .int .i64 er]) ∧ AOut w B p d H R' Q D w') ∧
    (∀ (w : World) (B x g : Nat) (F : Nat → Prop), XT w B x g F R Q → Calls Try.prog 23 #[.pointer (some ⟨x, 0, none⟩), .int .i64 r] w fun e w' => e = .returned (.tuple #[.int .i64 zz, .int .i64 er]) ∧ XOut w B x g F R' Q w') := by
  by_cases hu : 1 ≤ r ∧ r ≤ 5
  · by_cases h0 : R.count 0 = 0
    · exact ⟨0, 81, R, hs, hI, fun _ _ _ _ _ _ hA => (hA.take_none r hu h0).mono fun e w' ⟨a, b⟩ => ⟨a, by rw [← b]; exact AOut.same hA⟩, fun _ _ _ _ _ hX => hX.take_none r hu h0⟩
    · have hz : ∃ n : Nat, ∃ hn : n < R.length, R[n] = 0 ∧ ∀ i (hi : i < R.length), i < n → R[i] ≠ 0 := by
        have hmem : (0 : Int) ∈ R := List.count_pos_iff.1 (by omega)
        refine ⟨R.idxOf 0, List.idxOf_lt_length_iff.2 hmem, List.getElem_idxOf _, fun i hi hlt he => ?_⟩
        have := List.not_of_lt_findIdx (p := (· == (0 : Int))) (xs := R) (i := i) hlt
        simp [he] at this
      obtain ⟨n, hn, hn0, hlow⟩ := hz
      exact ⟨n, 0, R.set n r, _, hI.take n hn hn0 r hu, fun _ _ _ _ _ _ hA => hA.take r hu n hn hn0 hlow, fun _ _ _ _ _ hX => hX.take_at r hu n hn hn0 hlow⟩
  · exact ⟨0, 80, R, hs, hI, fun _ _ _ _ _ _ hA => (hA.take_bad r hu).mono fun e w' ⟨a, b⟩ => ⟨a, by rw [← b]; exact AOut.same hA⟩, fun _ _ _ _ _ hX => (hX.take_bad r hu).mono fun e w' ⟨a, b⟩ => ⟨a, by rw [← b]; exact XOut.same hX⟩⟩
theorem roleAt_out {R : List Int} {z : Int} (h : ¬ (0 ≤ z ∧ z < R.length)) : roleAt R z = -1 := if_neg h
/-- Own, of both -/
theorem own_both {N : Nat} {R : List Int} {hs : List Bool} {Q : List Int} (hI : AInv N R hs Q) (z r : Int) : ∃ (er : Int) (R' : List Int) (hs' : List Bool), AInv N R' hs' Q ∧
    (∀ (w : World) (B p d : Nat) (H : Nat → Prop) (D : Dv), AT w B p d H R Q D → Calls Try.prog 10 #[.pointer (some ⟨p, 0, none⟩), .int .i64 z, .int .i64 r] w fun e w' => e = .returned (.int .i64 er) ∧ AOut w B p d H R' Q D w') ∧
    (∀ (w : World) (B x g : Nat) (F : Nat → Prop), XT w B x g F R Q → Calls Try.prog 24 #[.pointer (some ⟨x, 0, none⟩), .int .i64 z, .int .i64 r] w fun e w' => e = .returned (.int .i64 er) ∧ XOut w B x g F R' Q w') := by
  by_cases hz : 0 ≤ z ∧ z < R.length
  · obtain ⟨n, rfl⟩ := Int.eq_ofNat_of_zero_le hz.1
    have hn : n < R.length := by omega
    by_cases h0 : R[n] = 0 ∧ 1 ≤ r ∧ r ≤ 5
    · refine ⟨0, R.set n r, _, hI.take n hn h0.1 r h0.2, fun _ _ _ _ _ _ hA => hA.own n r hn h0.1 h0.2, fun _ _ _ _ _ hX => (hX.own n r hn).mono fun e w' h => ?_⟩
      rcases h with ⟨h, _⟩ | ⟨_, h⟩
      · exact absurd h0 h
      · exact h
    · have hv := hI.val n hn
      refine ⟨80, R, hs, hI, fun _ _ _ _ _ _ hA => (hA.own_err n r (by rw [roleAt_in hn]; exact h0)).mono fun e w' ⟨a, b⟩ => ⟨by rw [a, roleAt_in hn, if_neg (by omega)], by rw [← b]; exact AOut.same hA⟩, fun _ _ _ _ _ hX => (hX.own n r hn).mono fun e w' h => ?_⟩
      rcases h with ⟨_, h1, h2⟩ | ⟨h, _⟩
      · exact ⟨h1, by rw [← h2]; exact XOut.same hX⟩
      · exact absurd h h0
  · have hr := roleAt_out hz
    exact ⟨70, R, hs, hI, fun _ _ _ _ _ _ hA => (hA.own_err z r (by rw [hr]; omega)).mono fun e w' ⟨a, b⟩ => ⟨by rw [a, hr]; rfl, by rw [← b]; exact AOut.same hA⟩, fun _ _ _ _ _ hX => (hX.own_no z r hz).mono fun e w' ⟨a, b⟩ => ⟨a, by rw [← b]; exact XOut.same hX⟩⟩
/-- Release, of both -/
theorem release_both {N : Nat} {R : List Int} {hs : List Bool} {Q : List Int} (hI : AInv N R hs Q) (hN : N ≤ 64) (z : Int) : ∃ (er : Int) (R' : List Int) (hs' : List Bool) (Q' : List Int), AInv N R' hs' Q' ∧
    (∀ (w : World) (B p d : Nat) (H : Nat → Prop) (D : Dv), AT w B p d H R Q D → Calls Try.prog 15 #[.pointer (some ⟨p, 0, none⟩), .int .i64 z] w fun e w' => e = .returned (.int .i64 er) ∧ AOut w B p d H R' Q' D w') ∧
    (∀ (w : World) (B x g : Nat) (F : Nat → Prop), XT w B x g F R Q → Calls Try.prog 25 #[.pointer (some ⟨x, 0, none⟩), .int .i64 z] w fun e w' => e = .returned (.int .i64 er) ∧ XOut w B x g F R' Q' w') := by
  have hql := ainv_ql hI
  by_cases hz : 0 ≤ z ∧ z < R.length
  · obtain ⟨n, rfl⟩ := Int.eq_ofNat_of_zero_le hz.1
    have hn : n < R.length := by omega
    by_cases h0 : 1 ≤ R[n] ∧ R[n] ≤ 5
    · exact ⟨0, R.set n 6, _, _, hI.release n hn h0, fun _ _ _ _ _ _ hA => hA.release n hn h0 (by omega), fun _ _ _ _ _ hX => hX.release n hn h0 (by omega)⟩
    · have hv := hI.val n hn
      exact ⟨80, R, hs, Q, hI, fun _ _ _ _ _ _ hA => (hA.release_no n (by rw [roleAt_in hn]; exact h0)).mono fun e w' ⟨a, b⟩ => ⟨by rw [a, roleAt_in hn, if_neg (by omega)], by rw [← b]; exact AOut.same hA⟩, fun _ _ _ _ _ hX => (hX.release_bad n hn h0).mono fun e w' ⟨a, b⟩ => ⟨a, by rw [← b]; exact XOut.same hX⟩⟩
  · have hr := roleAt_out hz
    exact ⟨70, R, hs, Q, hI, fun _ _ _ _ _ _ hA => (hA.release_no z (by rw [hr]; omega)).mono fun e w' ⟨a, b⟩ => ⟨by rw [a, hr]; rfl, by rw [← b]; exact AOut.same hA⟩, fun _ _ _ _ _ hX => (hX.release_no z hz).mono fun e w' ⟨a, b⟩ => ⟨a, by rw [← b]; exact XOut.same hX⟩⟩
/-- the state of AllocPlays between two ops -/
def PI (w0 w : World) (p d x g N k : Nat) : Prop :=
  ∃ (H F : Nat → Prop) (R : List Int) (hs : List Bool) (Q : List Int) (D : Dv), AT w w0.heap.size p d H R Q D ∧ XT w w0.heap.size x g F R Q ∧ (∀ k, H k → ¬ F k) ∧ AInv N R hs Q ∧ DN D N k ∧ Below w0.heap.size w0 w
theorem PI.of {w0 w : World} {p d x g qb N k : Nat} {xk xz xn : Int} {R Q : List Int} {hs : List Bool} {D : Dv} (h : PJ w0 w p d x g qb xk xz xn R Q D R Q) (hi : AInv N R hs Q) (hd : DN D N k) : PI w0 w p d x g N k := by
  obtain ⟨H, F, hA, hX, hd2, h1, h2, hcs, hb0⟩ := h
  exact ⟨H, F, R, hs, Q, D, hA, hX, hd2, hi, hd, hb0⟩
end Go.Proofs.Ytcgjkgcafkcgoaa
