/- Texts joined: Lg1, Lg2, Lg3, Lg4. -/
import Derived.Test.YtmhklmecpbdljaaDoorYJa
import Derived.Test.YtmhklmecpbdljaaDoorYAlTab
import Derived.Test.YtmhklmecpbdljaaDoorShelf
import Derived.Test.YtmhklmecpbdljaaDoorYZop
import Derived.Lib.OwnBridge
import Derived.Test.YtmhklmecpbdljaaDoorYRlW
/- A device of zones: its geometry, a zone's room. -/

namespace Go.Proofs.YtmhklmecpbdljaaDoor
open Go.RowKit
set_option linter.unusedVariables false
set_option linter.unusedSimpArgs false

theorem geo3 {w : World} (a b c : Value) : ((((w.alloc (.cells #[.int .i64 0, .int .i64 0, .int .i64 0] 76)).setCell ⟨w.heap.size, 0, none⟩ a).setCell ⟨w.heap.size, 1, none⟩ b).setCell ⟨w.heap.size, 2, none⟩ c).heap[w.heap.size]? = some (.cells #[a, b, c] 76 (0, 0)) := by
  have h0 := heap_alloc_new w (.cells #[.int .i64 0, .int .i64 0, .int .i64 0] 76)
  have h1 := heap_set_listz (l := [.int .i64 0, .int .i64 0, .int .i64 0]) h0 0 a
  have h2 := heap_set_listz (l := [a, .int .i64 0, .int .i64 0]) h1 1 b
  exact heap_set_listz (l := [a, b, .int .i64 0]) h2 2 c
theorem geo3c {w : World} {k : Nat} {a b c : Value} {T : TypeId} (h : w.heap[k]? = some (.cells #[a, b, c] T (0, 0))) : w.cell? ⟨k, 0, none⟩ = some a ∧ w.cell? ⟨k, 1, none⟩ = some b ∧ w.cell? ⟨k, 2, none⟩ = some c := by
  refine ⟨?_, ?_, ?_⟩ <;> (rw [cell_of_row _ _ _ _ _ _ h]; rfl)
set_option maxHeartbeats 2000000 in
theorem zgeo {w : World} {B p r : Nat} {Z : List Zm} {D : Dv} (h : DM w B p r Z D) :
    Calls Tryd.prog 53 #[.pointer (some ⟨p, 0, none⟩)] w fun e w' => e = .returned (.agg #[.int .i64 (D.n : Nat), .int .i64 (D.size : Nat), .int .i64 (D.op : Nat)]) ∧ Below w.heap.size w w' := by
  obtain ⟨c0, c1, c2, _⟩ := h.cells
  have hp := blk_lt h.box
  clear h
  have g3 := geo3 (w := w) (.int .i64 (D.n : Nat)) (.int .i64 (D.size : Nat)) (.int .i64 (D.op : Nat))
  generalize D.n = n at *
  generalize D.size = s at *
  generalize D.op = o at *
  obtain ⟨r0, r1, r2⟩ := geo3c g3
  go_enter Tryd.func53, Tryd.ntmps53
  go_wp2
  refine bodyPost_ret (v := .agg #[.int .i64 n, .int .i64 s, .int .i64 o]) (by simp [results, Tryd.results53, go_sem, r0, r1, r2]) rfl ?_
  refine ⟨rfl, ?_⟩
  (repeat first | exact Below.refl _ _ | refine Below.drew ?_ | refine Below.alloc ?_ (by simp <;> omega) _ | refine Below.setCell ?_ (by simp <;> omega) _)
def zrm (D : Dv) (z : Int) : Int := if h : 0 ≤ z ∧ z.toNat < D.A.length then (if (D.A[z.toNat]'h.2).st = 2 then 0 else (D.size : Int) - ((D.A[z.toNat]'h.2).b.length : Int)) else 0
theorem zrm_at {D : Dv} (m : Nat) (h : m < D.A.length) : zrm D (m : Nat) = if D.A[m].st = 2 then 0 else (D.size : Int) - (D.A[m].b.length : Int) := by unfold zrm; rw [dif_pos ⟨by omega, by simpa using h⟩]; rfl
theorem zrm_out {D : Dv} {z : Int} (h : ¬ (0 ≤ z ∧ z.toNat < D.A.length)) : zrm D z = 0 := dif_neg h
set_option maxHeartbeats 2000000 in
theorem zroom {w : World} {B p r : Nat} {Z : List Zm} {D : Dv} (h : DM w B p r Z D) (z : Int) :
    Calls Tryd.prog 55 #[.pointer (some ⟨p, 0, none⟩), .int .i64 z] w fun e w' => e = .returned (.int .i64 (zrm D z)) ∧ Below w.heap.size w w' := by
  have hlA := h.lenA
  have hl := h.len
  have Hhas := Lib.hid (zhas h z)
  obtain ⟨_, c1, _, c3, _, _, _⟩ := h.cells
  obtain ⟨a1, a2, a3, a4, a5, a6, l1, l2, a9, a10⟩ := h.ok
  clear l1 l2 a9 a5 a6
  by_cases hz : 0 ≤ z ∧ z < (D.n : Int)
  · obtain ⟨m, rfl⟩ := Int.eq_ofNat_of_zero_le hz.1
    have hm : m < Z.length := by omega
    obtain ⟨a, c, hv, hc, d0, d1, d2⟩ := h.zn m hm
    have e : zrm D (m : Nat) = if Z[m].z.st = 2 then 0 else (D.size : Int) - (Z[m].z.b.length : Int) := by rw [zrm_at m (by omega), h.at m hm]
    rw [e]
    have eh : zhs D (m : Nat) = true := decide_eq_true hz
    rw [eh] at Hhas
    have hok := h.zok m hm
    obtain ⟨o1, o2, o3⟩ := hok
    have hmn : m < D.n := by omega
    clear e eh h hv a10 hlA hl hz
    generalize Z[m].z.st = s at *
    generalize Z[m].z.b.length = bl at *
    generalize Z[m].z.fl = fl at *
    clear hm
    generalize D.n = n at *
    generalize D.size = ds at *
    by_cases hs : s = 2
    · rw [if_pos hs]
      subst hs
      go_enter Tryd.func55, Tryd.ntmps55
      go_wp2_with fail; (with_reducible refine (Hhas.out).mono ?_); rintro e w ⟨rfl, rfl⟩
      go_wp2
      go_ret
      exact ⟨rfl, Below.refl _ _⟩
    · rw [if_neg hs]
      have hse : ((s : Int) == 2) = false := by rw [beq_eq_false_iff_ne]; omega
      clear hs
      go_enter Tryd.func55, Tryd.ntmps55
      go_wp2_with fail; (with_reducible refine (Hhas.out).mono ?_); rintro e w ⟨rfl, rfl⟩
      go_upto_region 3 with (fail)
      go_region
      all_goals
        go_wp2
        go_ret
        exact ⟨rfl, (Below.refl _ w).drew⟩
  · have e : zrm D z = 0 := zrm_out (fun h => hz ⟨h.1, by have := h.2; omega⟩)
    rw [e]
    have eh : zhs D z = false := decide_eq_false hz
    rw [eh] at Hhas
    clear e eh h a10 hlA hl hz
    generalize D.n = n at *
    go_enter Tryd.func55, Tryd.ntmps55
    go_wp2_with fail; (with_reducible refine (Hhas.out).mono ?_); rintro e w ⟨rfl, rfl⟩
    go_wp2
    go_ret
    exact ⟨rfl, Below.refl _ _⟩
theorem DI.room_ {w : World} {B p : Nat} {F : Nat → Prop} {D : Dv} (h : DI w B p F D) (z : Int) : Calls Tryd.prog 55 #[.pointer (some ⟨p, 0, none⟩), .int .i64 z] w fun e w' => e = .returned (.int .i64 (zrm D z)) ∧ Below w.heap.size w w' := by
  obtain ⟨r, Z, hF, hD⟩ := h
  exact zroom hD z
theorem DI.geo {w : World} {B p : Nat} {F : Nat → Prop} {D : Dv} (h : DI w B p F D) : Calls Tryd.prog 53 #[.pointer (some ⟨p, 0, none⟩)] w fun e w' => e = .returned (.agg #[.int .i64 (D.n : Nat), .int .i64 (D.size : Nat), .int .i64 (D.op : Nat)]) ∧ Below w.heap.size w w' := by
  obtain ⟨r, Z, hF, hD⟩ := h
  exact zgeo hD
end Go.Proofs.YtmhklmecpbdljaaDoor
/- reclog.Log: in memory; New, Zones, Room. -/

namespace Go.Proofs.YtmhklmecpbdljaaDoor
open Go.RowKit
set_option linter.unusedVariables false
set_option linter.unusedSimpArgs false

/-- the numbers of zones -/
def zin (zs : List Nat) : List Int := zs.map fun z => ((z : Nat) : Int)
theorem zin_len (zs : List Nat) : (zin zs).length = zs.length := by simp [zin]
theorem zin_snoc (zs : List Nat) (z : Nat) : zin (zs ++ [z]) = zin zs ++ [(z : Int)] := by simp [zin]
theorem zin_at (zs : List Nat) (i : Nat) (h : i < (zin zs).length) : (zin zs)[i] = ((zs[i]'(by rw [zin_len] at h; exact h) : Nat) : Int) := by simp [zin]
def zvs (zs : List Nat) : List Value := ivs (zin zs)
theorem zvs_at (zs : List Nat) (i : Nat) (h : i < zs.length) : (zvs zs)[i]? = some (.int .i64 ((zs[i] : Nat) : Int)) := by simp [zvs, zin, ivs, h]
theorem zvs_snoc (zs : List Nat) (z : Nat) : zvs (zs ++ [z]) = zvs zs ++ [.int .i64 ((z : Nat) : Int)] := by simp [zvs, zin, ivs]
def fpL (q : Nat) (v : Value) (k : Nat) : Prop := k = q ∨ v.ownBlock = some k
/-- at block q a log over the device at block p -/
structure LM (w : World) (B q p : Nat) (v : Value) (G : Nat → Prop) (D : Dv) (zs : List Nat) : Prop where
  box : w.heap[q]? = some (.cells #[.pointer (some ⟨p, 0, none⟩), v] 80 (0, 0))
  row : w.ownsRow B 3 1 v zs.length (zvs zs)
  dev : DI w B p G D
  low : B ≤ q
  vq : v.ownBlock ≠ some q
  ap : ∀ k, fpL q v k → ¬ G k
/-- the same, in the blocks F -/
def LI (w : World) (B q p : Nat) (F : Nat → Prop) (D : Dv) (zs : List Nat) : Prop := ∃ v G, LM w B q p v G D zs ∧ ∀ k, F k ↔ fpL q v k ∨ G k
def LOut (w : World) (B q p : Nat) (F : Nat → Prop) (D : Dv) (zs : List Nat) (w' : World) : Prop := (∃ F', LI w' B q p F' D zs ∧ ∀ k, F' k → F k ∨ w.heap.size ≤ k) ∧ Chg F w w'
section
variable {w w' : World} {B q p : Nat} {v : Value} {G F : Nat → Prop} {D : Dv} {zs : List Nat}
theorem LM.lt (h : LM w B q p v G D zs) : ∀ k, fpL q v k → B ≤ k ∧ k < w.heap.size := by
  rintro k (rfl | hk)
  · exact ⟨h.low, blk_lt h.box⟩
  · exact World.ownsRow.lt h.row k hk
theorem LM.chg {E : Nat → Prop} (h : LM w B q p v G D zs) (hc : Chg E w w') (h1 : ∀ k, fpL q v k → ¬ E k) (h2 : ∀ k, G k → ¬ E k) : LM w' B q p v G D zs :=
  ⟨blk_chg h.box hc (h1 q (.inl rfl)), row_same h.row fun k hk => hc.block k (World.ownsRow.lt h.row k hk).2 (h1 k (.inr hk)), h.dev.chg hc h2, h.low, h.vq, h.ap⟩
theorem LM.below (h : LM w B q p v G D zs) (hb : Below w.heap.size w w') : LM w' B q p v G D zs := h.chg (E := fun _ => False) (Chg.of_below hb) (fun _ _ h => h) fun _ _ h => h
theorem LM.c0 (h : LM w B q p v G D zs) : w.cell? ⟨q, 0, none⟩ = some (.pointer (some ⟨p, 0, none⟩)) := (cell_pair h.box).1
theorem LM.c1 (h : LM w B q p v G D zs) : w.cell? ⟨q, 1, none⟩ = some v := (cell_pair h.box).2.1
theorem LM.f1 (h : LM w B q p v G D zs) : w.frozen? ⟨q, 1, none⟩ = false := (cell_pair h.box).2.2.2
theorem LI.ge (h : LI w B q p F D zs) : ∀ k, F k → B ≤ k ∧ k < w.heap.size := by
  obtain ⟨v, G, hL, hF⟩ := h
  intro k hk
  rcases (hF k).1 hk with h1 | h1
  · exact hL.lt k h1
  · exact hL.dev.ge k h1
theorem LI.room (h : LI w B q p F D zs) : B ≤ w.heap.size := by
  obtain ⟨v, G, hL, hF⟩ := h
  exact hL.dev.room
theorem LI.ok (h : LI w B q p F D zs) : DvOk D := by obtain ⟨v, G, hL, hF⟩ := h; exact hL.dev.ok
theorem LI.lenA (h : LI w B q p F D zs) : D.A.length = D.n := by obtain ⟨v, G, hL, hF⟩ := h; exact hL.dev.lenA
theorem LI.chg {E : Nat → Prop} (h : LI w B q p F D zs) (hc : Chg E w w') (hd : ∀ k, F k → ¬ E k) : LI w' B q p F D zs := by
  obtain ⟨v, G, hL, hF⟩ := h
  exact ⟨v, G, hL.chg hc (fun k hk => hd k ((hF k).2 (.inl hk))) (fun k hk => hd k ((hF k).2 (.inr hk))), hF⟩
theorem LI.below (h : LI w B q p F D zs) (hb : Below w.heap.size w w') : LI w' B q p F D zs := h.chg (E := fun _ => False) (Chg.of_below hb) fun _ _ h => h
theorem LOut.below (h : LOut w B q p F D zs w') (h0 : ∀ k, F k → B ≤ k ∧ k < w.heap.size) (hB : B ≤ w.heap.size) : Below B w w' := h.2.below (fun k hk => (h0 k hk).1) hB
theorem LOut.same (h : LI w B q p F D zs) (hb : Below w.heap.size w w') : LOut w B q p F D zs w' := ⟨⟨F, h.below hb, fun k hk => .inl hk⟩, Chg.of_below hb⟩
/-- the device has turned -/
theorem LM.turn {w1 : World} {D' : Dv} (h : LM w B q p v G D zs) (hF : ∀ k, F k ↔ fpL q v k ∨ G k) (hb : Below w.heap.size w w1) (ho : DOut w1 B p G D' w') : LOut w B q p F D' zs w' := by
  have h1 := h.below hb
  obtain ⟨⟨G', hD', hG⟩, hc⟩ := ho
  have hz := hb.size
  refine ⟨⟨fun k => fpL q v k ∨ G' k, ⟨v, G', ⟨blk_chg h1.box hc (h.ap q (.inl rfl)), row_same h1.row fun k hk => hc.block k (World.ownsRow.lt h1.row k hk).2 (h.ap k (.inr hk)), hD', h.low, h.vq, fun k hk hg => ?_⟩, fun k => Iff.rfl⟩, fun k hk => ?_⟩, (Chg.of_below hb).trans2 (hc.mono fun k hk => (hF k).2 (.inr hk)) fun _ _ h => h⟩
  · rcases hG k hg with h2 | h2
    · exact h.ap k hk h2
    · have := (h.lt k hk).2; omega
  · rcases hk with h2 | h2
    · exact .inl ((hF k).2 (.inl h2))
    · rcases hG k h2 with h3 | h3
      · exact .inl ((hF k).2 (.inr h3))
      · exact .inr (by omega)
theorem zclone {w : World} {B : Nat} {v : Value} {zs : List Nat} (h : w.ownsRow B 3 1 v zs.length (zvs zs)) (hn : zs.length ≤ 10000) :
    Calls Tryd.prog 34 #[v] w fun e w' => ∃ u, e = .returned u ∧ w'.ownsRow w.heap.size 3 1 u zs.length (zvs zs) ∧ Below w.heap.size w w' := by
  rcases h.2 with ⟨rfl, e2⟩ | ⟨g', cap, cur, rfl, _, hg', hn2, hm, hs, ht⟩
  · have hQ : zs = [] := List.eq_nil_of_length_eq_zero e2
    subst hQ
    refine (Tryd.slices_Clone_int_nil 0 0 w).mono ?_
    rintro e w' ⟨rfl, rfl⟩
    exact ⟨_, rfl, World.ownsRow_nil _ _ _ _, Below.refl _ _⟩
  · refine (Tryd.slices_Clone_int g' 0 zs.length cap (zin zs) w (by rw [zin_len]; exact Nat.le_refl _) (by omega) (fun j hj => ?_)).mono ?_
    · rw [zin_len] at hj
      rw [Nat.zero_add, World.ownsRow.cellAt h j (by omega), zvs_at zs j hj]
      simp [zin, hj, List.getD]
    · rintro e w' ⟨v', rfl, ho, _, hb⟩
      rw [List.take_of_length_le (by rw [zin_len]; exact Nat.le_refl _)] at ho
      exact ⟨v', rfl, ho, hb⟩
def lroom (D : Dv) (zs : List Nat) : Int := match zs.getLast? with | none => 0 | some z => zrm D (z : Nat)
theorem LI.room_nil (h : LI w B q p F D []) : Calls Tryd.prog 31 #[.pointer (some ⟨q, 0, none⟩)] w fun e w' => e = .returned (.int .i64 0) ∧ Below w.heap.size w w' := by
  obtain ⟨v, G, hL, hF⟩ := h
  have k1 := hL.c1
  obtain ⟨ao, c, rfl, _⟩ := row_shape hL.row
  clear hL hF
  go_enter Tryd.func31, Tryd.ntmps31
  go_wp2
  go_ret
  exact ⟨rfl, Below.refl _ _⟩
/-- the last number of a row that is not empty -/
theorem LM.last {ys : List Nat} {z : Nat} (h : LM w B q p v G D (ys ++ [z])) : ∃ g c, v = .slice (some ⟨g, 0, none⟩) (ys.length + 1) c ∧ ys.length + 1 ≤ c ∧ w.cell? ⟨g, ys.length, none⟩ = some (.int .i64 (z : Nat)) := by
  have hl : (ys ++ [z]).length = ys.length + 1 := by simp
  obtain ⟨ao, c, hv, hc, _, hg⟩ := row_shape h.row
  rw [hl] at hv hc hg
  obtain ⟨g, rfl, _⟩ := hg (by omega)
  have hr := h.row
  rw [hv, hl] at hr
  refine ⟨g, c, hv, hc, ?_⟩
  rw [World.ownsRow.cellAt hr ys.length (by omega), zvs_at _ _ (by omega)]
  simp
set_option maxHeartbeats 2000000 in
theorem LI.room_last {ys : List Nat} {z : Nat} (h : LI w B q p F D (ys ++ [z])) (hy : ys.length ≤ 1000) : Calls Tryd.prog 31 #[.pointer (some ⟨q, 0, none⟩)] w fun e w' => e = .returned (.int .i64 (zrm D (z : Nat))) ∧ Below w.heap.size w w' := by
  obtain ⟨v, G, hL, hF⟩ := h
  have k0 := hL.c0
  have k1 := hL.c1
  obtain ⟨g, c, rfl, hc, k2⟩ := hL.last
  have K0 := cell_next k0
  have K1 := cell_next k1
  have K2 := cell_next k2
  have HR : Hid (∀ W, Below w.heap.size w W → Calls Tryd.prog 55 #[.pointer (some ⟨p, 0, none⟩), .int .i64 (z : Nat)] W fun e w' => e = .returned (.int .i64 (zrm D (z : Nat))) ∧ Below W.heap.size W w') := Lib.hid fun W hW => (hL.dev.below hW).room_ z
  clear hL hF
  generalize ys.length = n at *
  generalize zrm D (z : Nat) = r at *
  go_enter Tryd.func31, Tryd.ntmps31
  go_upto_region 3 with (fail)
  have Bq := bnext_grow (Below.refl w.heap.size w)
  refine wp_region_quiet_below (by kernel_rfl) (by kernel_rfl) ?_; (repeat (go_big_quiet_step ((go_at_call 55; (with_reducible refine Calls.regrown_of (HR.out _ (Bq _ _))))))); refine wpQuiet_nil ?_; rintro _ ⟨pq, rfl⟩
  go_wp2
  go_ret
  exact ⟨rfl, Bq _ _⟩
end
end Go.Proofs.YtmhklmecpbdljaaDoor
/- reclog.Log: New, Sync, Grow; what of the device is read. -/

namespace Go.Proofs.YtmhklmecpbdljaaDoor
open Go.RowKit
set_option linter.unusedVariables false
set_option linter.unusedSimpArgs false

theorem zcloneK {w : World} {a : Option Addr} {c : Nat} {zs : List Nat} (h : KZ w a (zin zs)) (h0 : zs = [] → a = none) (hn : zs.length ≤ 10000) :
    Calls Tryd.prog 34 #[.slice a zs.length c] w fun e w' => ∃ u, e = .returned u ∧ w'.ownsRow w.heap.size 3 1 u zs.length (zvs zs) ∧ Below w.heap.size w w' := by
  rcases Nat.eq_zero_or_pos zs.length with hz | hz
  · have hQ : zs = [] := List.eq_nil_of_length_eq_zero hz
    obtain rfl := h0 hQ
    subst hQ
    refine (Tryd.slices_Clone_int_nil 0 c w).mono ?_
    rintro e w' ⟨rfl, rfl⟩
    exact ⟨_, rfl, World.ownsRow_nil _ _ _ _, Below.refl _ _⟩
  · obtain ⟨b, off, rfl, hc⟩ := h (by rw [zin_len]; exact hz)
    refine (Tryd.slices_Clone_int b off zs.length c (zin zs) w (by rw [zin_len]; exact Nat.le_refl _) (by omega) (fun j hj => ?_)).mono ?_
    · rw [hc j hj]
      simp [List.getD, hj]
    · rintro e w' ⟨v', rfl, ho, _, hb⟩
      rw [List.take_of_length_le (by rw [zin_len]; exact Nat.le_refl _)] at ho
      exact ⟨v', rfl, ho, hb⟩
theorem lnew {w : World} {B p : Nat} {G : Nat → Prop} {D : Dv} {a : Option Addr} {c : Nat} {zs : List Nat} (hD : DI w B p G D) (h : KZ w a (zin zs)) (h0 : zs = [] → a = none) (hn : zs.length ≤ 10000) :
    Calls Tryd.prog 12 #[.pointer (some ⟨p, 0, none⟩), .slice a zs.length c] w fun e w' => ∃ q F, e = .returned (.pointer (some ⟨q, 0, none⟩)) ∧ LI w' B q p F D zs ∧ Below w.heap.size w w' := by
  have HC := Lib.hid (zcloneK (c := c) h h0 hn)
  have HD := Lib.hid hD
  clear h hD
  go_enter Tryd.func12, Tryd.ntmps12
  go_wp2_with fail; (with_reducible refine (HC.out).mono ?_); rintro e w2 ⟨u, rfl, ho, hb⟩
  obtain ⟨ao, cc, rfl, _⟩ := row_shape ho
  have HO := Lib.hid ho
  clear ho HC
  go_wp2
  go_ret
  have hba : Below w2.heap.size w2 (w2.alloc (.cells #[.pointer (some ⟨p, 0, none⟩), .slice ao zs.length cc] 80)) := (Below.refl _ w2).alloc (Nat.le_refl _) _
  have hz := hb.size
  have hB := HD.out.room
  refine ⟨w2.heap.size, _, rfl, ⟨_, G, ⟨heap_alloc_new w2 _, row_mono (row_past HO.out hba (Nat.le_refl _)) hB, HD.out.below (hb.trans (hba.mono hz)), by omega, fun e => ?_, fun k hk hg => ?_⟩, fun k => Iff.rfl⟩, hb.trans (hba.mono hz)⟩
  · have := (World.ownsRow.lt HO.out _ e).2; omega
  · have h1 := (HD.out.ge k hg).2
    rcases hk with rfl | hk
    · omega
    · have := (World.ownsRow.lt HO.out _ hk).1; omega
section
variable {w w' : World} {B q p : Nat} {v : Value} {G F : Nat → Prop} {D D' : Dv} {zs : List Nat}
theorem LI.pointer (h : LI w B q p F D zs) (z : Int) : Calls Tryd.prog 24 #[.pointer (some ⟨p, 0, none⟩), .int .i64 z] w fun e w' => e = .returned (.int .i64 (zpt D z)) ∧ w = w' := by
  obtain ⟨v, G, hL, hF⟩ := h
  exact hL.dev.pointer z
theorem LI.droom (h : LI w B q p F D zs) (z : Int) : Calls Tryd.prog 55 #[.pointer (some ⟨p, 0, none⟩), .int .i64 z] w fun e w' => e = .returned (.int .i64 (zrm D z)) ∧ Below w.heap.size w w' := by
  obtain ⟨v, G, hL, hF⟩ := h
  exact hL.dev.room_ z
theorem LI.dappend {er : Int} (h : LI w B q p F D zs) (hdn : D.done < 4611686018427387904) (z : Int) {m : List UInt8} {ao : Option Addr} {n c : Nat} (hr : RB w (.slice ao n c) m) (hml : m.length ≤ 1000000) (e0 : zapp D z m = (D', er)) :
    Calls Tryd.prog 14 #[.pointer (some ⟨p, 0, none⟩), .int .i64 z, .slice ao n c] w fun e w' => e = .returned (.int .i64 er) ∧ LOut w B q p F D' zs w' := by
  obtain ⟨v, G, hL, hF⟩ := h
  refine (hL.dev.append hdn z hr hml e0).mono ?_
  rintro e w' ⟨rfl, h2⟩
  exact ⟨rfl, hL.turn hF (Below.refl _ _) h2⟩
theorem zhasin {w : World} {B : Nat} {v : Value} {zs : List Nat} {z : Nat} (h : w.ownsRow B 3 1 v zs.length (zvs zs)) (hn : zs.length ≤ 10000) (hz : z ∉ zs) :
    Calls Tryd.prog 57 #[v, .int .i64 (z : Nat)] w fun e w' => e = .returned (.bool false) ∧ w = w' := by
  rcases h.2 with ⟨rfl, e2⟩ | ⟨g', cap, cur, rfl, _, hg', hn2, hm, hs, ht⟩
  · refine (Tryd.slices_Contains_int_empty none 0 (z : Nat) w).mono ?_
    rintro e w' ⟨rfl, rfl⟩
    exact ⟨rfl, rfl⟩
  · refine (Tryd.slices_Contains_int g' 0 zs.length cap (zin zs) (z : Nat) w (by rw [zin_len]; exact Nat.le_refl _) (by omega) (fun j hj => ?_)).mono ?_
    · rw [zin_len] at hj
      rw [Nat.zero_add, World.ownsRow.cellAt h j (by omega), zvs_at zs j hj]
      simp [zin, hj, List.getD]
    · rintro e w' ⟨rfl, rfl⟩
      refine ⟨?_, rfl⟩
      have e1 : ((zin zs).take zs.length).contains ((z : Nat) : Int) = false := by
        rw [List.take_of_length_le (by rw [zin_len]; exact Nat.le_refl _)]
        rw [Bool.eq_false_iff]
        intro hc
        rw [List.contains_iff_mem] at hc
        obtain ⟨x, hx, e⟩ := List.mem_map.1 hc
        obtain rfl : x = z := by omega
        exact hz hx
      rw [e1]
theorem LI.grow_no (h : LI w B q p F D zs) (z : Nat) (hz : zst D (z : Nat) ≠ 0) :
    Calls Tryd.prog 32 #[.pointer (some ⟨q, 0, none⟩), .int .i64 (z : Nat)] w fun e w' => e = .returned (.int .i64 71) ∧ w = w' := by
  obtain ⟨v, G, hL, hF⟩ := h
  have k0 := hL.c0
  have HS := Lib.hid (hL.dev.state (z : Nat))
  have hne : (zst D (z : Nat) != 0) = true := by rw [bne_iff_ne]; exact hz
  clear hL hF hz
  generalize zst D (z : Nat) = s at *
  go_enter Tryd.func32, Tryd.ntmps32
  go_wp2_with fail; (with_reducible refine (HS.out).mono ?_); rintro e w2 ⟨rfl, rfl⟩
  go_wp2
  go_ret
  exact ⟨rfl, rfl⟩
set_option maxRecDepth 100000 in
set_option maxHeartbeats 4000000 in
theorem LI.grow (h : LI w B q p F D zs) (z : Nat) (hz : zst D (z : Nat) = 0) (hn : z ∉ zs) (hl : zs.length ≤ 1000) :
    Calls Tryd.prog 32 #[.pointer (some ⟨q, 0, none⟩), .int .i64 (z : Nat)] w fun e w' => e = .returned (.int .i64 0) ∧ LOut w B q p F D (zs ++ [z]) w' := by
  obtain ⟨v, G, hL, hF⟩ := h
  have k0 := hL.c0
  have k1 := hL.c1
  have f1 := hL.f1
  have HS := hL.dev.state (z : Nat)
  rw [hz] at HS
  have HS := Lib.hid HS
  have HN := Lib.hid (zhasin hL.row (by omega) hn)
  have HL := Lib.hid hL
  have HF := Lib.hid hF
  obtain ⟨i0, hi, hz0, hz1, hz2⟩ := info_parts infoInt
  have Hi := Lib.hid hi
  have Hz0 := Lib.hid hz0
  have Hz3 := Lib.hid hz1
  have Hzb := Lib.hid hz2
  have hbz := hL.dev.room
  have hqw := blk_lt hL.box
  clear hL hF hz hn hi hz0 hz1 hz2
  obtain ⟨av, cv, rfl, _⟩ := row_shape HL.out.row
  have HY : Hid (∀ v2 w2, w2.ownsRow B 3 1 v2 (zs.length + 1) (zvs zs ++ [.int .i64 (z : Nat)]) → App w w2 (.slice av zs.length cv) v2 → (∃ a2 c2, v2 = .slice a2 (zs.length + 1) c2) ∧ w2.cell? ⟨q, 1, none⟩ = some (.slice av zs.length cv) ∧ w2.frozen? ⟨q, 1, none⟩ = false ∧ LOut w B q p F D (zs ++ [z]) (w2.setCell ⟨q, 1, none⟩ v2)) := Lib.hid fun v2 w2 ho2 ha2 => by
    have hL1 := HL.out
    have hca := Chg.of_app ha2
    have hl2 : (zs ++ [z]).length = zs.length + 1 := by simp
    have hbox := blk_chg hL1.box hca (fun e => hL1.vq e)
    have hlies : ∀ k, v2.ownBlock = some k → (Value.slice av zs.length cv).ownBlock = some k ∨ w.heap.size ≤ k := fun k hk => by
      rcases ha2.lies with e | ⟨q', e, hq⟩
      · exact .inl (by rw [← e]; exact hk)
      · rw [e] at hk; cases hk; exact .inr hq
    have hvq : v2.ownBlock ≠ some q := fun e => by
      rcases hlies q e with h | h
      · exact HL.out.vq h
      · omega
    have hcs := Chg.set w2 q 1 v2
    obtain ⟨a2, c2, rfl, _⟩ := row_shape ho2
    refine ⟨⟨a2, c2, rfl⟩, (cell_pair hbox).2.1, (cell_pair hbox).2.2.2, ⟨fun k => fpL q (.slice a2 (zs.length + 1) c2) k ∨ G k, ⟨_, G, ⟨heap_set_listz (l := [_, _]) hbox 1 _, ?_, (hL1.dev.chg hca fun k hk e => HL.out.ap k (.inr e) hk).chg hcs fun k hk e => HL.out.ap k (.inl e) hk, HL.out.low, hvq, ?_⟩, fun k => Iff.rfl⟩, ?_⟩, ?_⟩
    · rw [hl2, zvs_snoc]
      exact row_same ho2 fun k hk => hcs.block k (World.ownsRow.lt ho2 k hk).2 (fun e => hvq (by rw [hk, e]))
    · rintro k (rfl | hk) hg
      · exact HL.out.ap _ (.inl rfl) hg
      · rcases hlies k hk with h | h
        · exact HL.out.ap k (.inr h) hg
        · have := (HL.out.dev.ge k hg).2; omega
    · rintro k ((rfl | hk) | hg)
      · exact .inl ((HF.out _).2 (.inl (.inl rfl)))
      · rcases hlies k hk with h | h
        · exact .inl ((HF.out k).2 (.inl (.inr h)))
        · exact .inr h
      · exact .inl ((HF.out k).2 (.inr hg))
    · exact (hca.mono fun i e => (HF.out i).2 (.inl (.inr e))).trans2 hcs fun i _ e => (HF.out i).2 (.inl (.inl e))
  have HR1 := Lib.hid HL.out.row
  clear HL HF
  go_enter Tryd.func32, Tryd.ntmps32
  go_wp2_with fail; (with_reducible refine (HS.out).mono ?_); rintro e w2 ⟨rfl, rfl⟩
  go_wp2_with fail; (with_reducible refine (HN.out).mono ?_); rintro e w2 ⟨rfl, rfl⟩
  go_wp2_with (at_builtin; go_loud (refine wpList_appN rfl (.tmp 24) (.tmp 26) 77 3 i0 (.int .i64 0) 1 8 Tryd.underlying77 Hi.out Hz0.out Hz3.out Hzb.out rfl (by decide) rfl B _ zs.length (zvs zs) rfl HR1.out #[.int .i64 (z : Nat)] 1 1 (by first | rfl | (simp; done) | (simp; rfl)) rfl (by intro u hu; simp at hu; subst hu; rfl) (by unfold maxLen; omega) (by omega) (by first | exact hbz | (simp; omega)) ?_); intro v2 w2 ho2 hold2 ha2; have hx := HY.out _ _ ho2 ha2; obtain ⟨⟨a2, c2, rfl⟩, m1, n1, hAO⟩ := hx; have HAO := Lib.hid hAO; clear ho2 hold2 ha2 hAO)
  go_ret
  exact ⟨rfl, HAO.out⟩
end
end Go.Proofs.YtmhklmecpbdljaaDoor
/- reclog.Log: Append, ReadAt. -/

namespace Go.Proofs.YtmhklmecpbdljaaDoor
open Go.RowKit
set_option linter.unusedVariables false
set_option linter.unusedSimpArgs false

theorem geoField (n s o : Int) (w : World) : (Instr.field 76 (.agg #[.int .i64 n, .int .i64 s, .int .i64 o]) 1).run Tryd.prog w = .ok (.int .i64 s) w := by kernel_rfl
section
variable {w w' : World} {B q p : Nat} {v : Value} {G F : Nat → Prop} {D D' : Dv} {zs : List Nat}
set_option maxRecDepth 100000 in
set_option maxHeartbeats 4000000 in
theorem LI.append_large (h : LI w B q p F D zs) (hT : Tab9 w) {ao : Option Addr} {c : Nat} {b : List UInt8} (hr : RB w (.slice ao b.length c) b) (hl : b.length ≤ 1000000) (h1 : D.size < (frB b).length) :
    Calls Tryd.prog 29 #[.pointer (some ⟨q, 0, none⟩), .slice ao b.length c] w fun e w' => e = .returned (.tuple #[.int .i64 0, .int .i64 0, .int .i64 201]) ∧ Below w.heap.size w w' := by
  obtain ⟨v, G, hL, hF⟩ := h
  have K0 := cell_next hL.c0
  have HF := Lib.hid (rframe hT hr (by omega))
  have HG : Hid (∀ W, Below w.heap.size w W → Calls Tryd.prog 53 #[.pointer (some ⟨p, 0, none⟩)] W fun e w' => e = .returned (.agg #[.int .i64 (D.n : Nat), .int .i64 (D.size : Nat), .int .i64 (D.op : Nat)]) ∧ Below W.heap.size W w') := Lib.hid fun W hW => (hL.dev.below hW).geo
  clear hL hF hr hT
  generalize frB b = f at *
  generalize D.size = s at *
  generalize D.n = n at *
  generalize D.op = o at *
  have hfd := geoField n s o
  go_enter Tryd.func29, Tryd.ntmps29
  go_wp2_with fail; (with_reducible refine (HF.out).mono ?_); rintro e w1 ⟨v1, rfl, ho1, hb1⟩
  obtain ⟨a1, n1, c1, rfl, hm1⟩ := ho1.shape
  obtain rfl := ho1.len
  have k1 := K0 _ hb1
  clear ho1
  go_wp2_with fail; (with_reducible refine (HG.out _ hb1).mono ?_); rintro e w2 ⟨rfl, hb2⟩
  go_wp2
  go_ret3
  exact ⟨rfl, hb1.trans (hb2.mono hb1.size)⟩
set_option maxRecDepth 100000 in
set_option maxHeartbeats 4000000 in
theorem LI.append_none (h : LI w B q p F D []) (hT : Tab9 w) {ao : Option Addr} {c : Nat} {b : List UInt8} (hr : RB w (.slice ao b.length c) b) (hl : b.length ≤ 1000000) (h1 : (frB b).length ≤ D.size) :
    Calls Tryd.prog 29 #[.pointer (some ⟨q, 0, none⟩), .slice ao b.length c] w fun e w' => e = .returned (.tuple #[.int .i64 0, .int .i64 0, .int .i64 81]) ∧ Below w.heap.size w w' := by
  obtain ⟨v, G, hL, hF⟩ := h
  have K0 := cell_next hL.c0
  have K1 := cell_next hL.c1
  have HF := Lib.hid (rframe hT hr (by omega))
  have HG : Hid (∀ W, Below w.heap.size w W → Calls Tryd.prog 53 #[.pointer (some ⟨p, 0, none⟩)] W fun e w' => e = .returned (.agg #[.int .i64 (D.n : Nat), .int .i64 (D.size : Nat), .int .i64 (D.op : Nat)]) ∧ Below W.heap.size W w') := Lib.hid fun W hW => (hL.dev.below hW).geo
  obtain ⟨av, cv, rfl, _⟩ := row_shape hL.row
  clear hL hF hr hT
  generalize frB b = f at *
  generalize D.size = s at *
  generalize D.n = n at *
  generalize D.op = o at *
  have hfd := geoField n s o
  go_enter Tryd.func29, Tryd.ntmps29
  go_wp2_with fail; (with_reducible refine (HF.out).mono ?_); rintro e w1 ⟨v1, rfl, ho1, hb1⟩
  obtain ⟨a1, n1, c1, rfl, hm1⟩ := ho1.shape
  obtain rfl := ho1.len
  have k1 := K0 _ hb1
  clear ho1
  go_wp2_with fail; (with_reducible refine (HG.out _ hb1).mono ?_); rintro e w2 ⟨rfl, hb2⟩
  have hb12 := hb1.trans (hb2.mono hb1.size)
  have k2 := K1 _ hb12
  go_wp2
  go_ret3
  exact ⟨rfl, hb12⟩
set_option maxRecDepth 100000 in
set_option maxHeartbeats 4000000 in
theorem LI.append_full {ys : List Nat} {z : Nat} (h : LI w B q p F D (ys ++ [z])) (hy : ys.length ≤ 1000) (hT : Tab9 w) {ao : Option Addr} {c : Nat} {b : List UInt8} (hr : RB w (.slice ao b.length c) b) (hl : b.length ≤ 1000000) (h1 : (frB b).length ≤ D.size) (h2 : zrm D (z : Nat) < ((frB b).length : Int)) :
    Calls Tryd.prog 29 #[.pointer (some ⟨q, 0, none⟩), .slice ao b.length c] w fun e w' => e = .returned (.tuple #[.int .i64 0, .int .i64 0, .int .i64 73]) ∧ Below w.heap.size w w' := by
  have HRm : Hid (∀ W, Below w.heap.size w W → Calls Tryd.prog 31 #[.pointer (some ⟨q, 0, none⟩)] W fun e w' => e = .returned (.int .i64 (zrm D (z : Nat))) ∧ Below W.heap.size W w') := Lib.hid fun W hW => (h.below hW).room_last hy
  obtain ⟨v, G, hL, hF⟩ := h
  have K0 := cell_next hL.c0
  have K1 := cell_next hL.c1
  have HF := Lib.hid (rframe hT hr (by omega))
  have HG : Hid (∀ W, Below w.heap.size w W → Calls Tryd.prog 53 #[.pointer (some ⟨p, 0, none⟩)] W fun e w' => e = .returned (.agg #[.int .i64 (D.n : Nat), .int .i64 (D.size : Nat), .int .i64 (D.op : Nat)]) ∧ Below W.heap.size W w') := Lib.hid fun W hW => (hL.dev.below hW).geo
  obtain ⟨g, cv, rfl, hc, k2⟩ := hL.last
  clear hL hF hr hT k2
  generalize frB b = f at *
  generalize D.size = s at *
  generalize D.n = n at *
  generalize D.op = o at *
  generalize zrm D (z : Nat) = r at *
  generalize ys.length = y at *
  have hfd := geoField n s o
  go_enter Tryd.func29, Tryd.ntmps29
  go_wp2_with fail; (with_reducible refine (HF.out).mono ?_); rintro e w1 ⟨v1, rfl, ho1, hb1⟩
  obtain ⟨a1, n1, c1, rfl, hm1⟩ := ho1.shape
  obtain rfl := ho1.len
  have k1 := K0 _ hb1
  clear ho1
  go_wp2_with fail; (with_reducible refine (HG.out _ hb1).mono ?_); rintro e w2 ⟨rfl, hb2⟩
  have hb12 := hb1.trans (hb2.mono hb1.size)
  have k2 := K1 _ hb12
  go_wp2_with fail; (with_reducible refine (HRm.out _ hb12).mono ?_); rintro e w3 ⟨rfl, hb3⟩
  go_wp2
  go_ret3
  exact ⟨rfl, hb12.trans (hb3.mono hb12.size)⟩
set_option maxRecDepth 100000 in
set_option maxHeartbeats 4000000 in
theorem LI.append {ys : List Nat} {z : Nat} {er : Int} (h : LI w B q p F D (ys ++ [z])) (hy : ys.length ≤ 1000) (hT : Tab9 w) {ao : Option Addr} {c : Nat} {b : List UInt8} (hr : RB w (.slice ao b.length c) b) (hl : b.length ≤ 1000000) (h1 : (frB b).length ≤ D.size) (h2 : ((frB b).length : Int) ≤ zrm D (z : Nat)) (hdn : D.done < 4611686018427387904) (e0 : zapp D (z : Nat) (frB b) = (D', er)) (her : er = 0) :
    Calls Tryd.prog 29 #[.pointer (some ⟨q, 0, none⟩), .slice ao b.length c] w fun e w' => e = .returned (.tuple #[.int .i64 (z : Nat), .int .i64 (zpt D (z : Nat)), .int .i64 0]) ∧ LOut w B q p F D' (ys ++ [z]) w' := by
  have HRm : Hid (∀ W, Below w.heap.size w W → Calls Tryd.prog 31 #[.pointer (some ⟨q, 0, none⟩)] W fun e w' => e = .returned (.int .i64 (zrm D (z : Nat))) ∧ Below W.heap.size W w') := Lib.hid fun W hW => (h.below hW).room_last hy
  have hsz : D.size ≤ 65536 := h.ok.s2
  obtain ⟨v, G, hL, hF⟩ := h
  have K0 := cell_next hL.c0
  have K1 := cell_next hL.c1
  have HF := Lib.hid (rframe hT hr (by omega))
  have HG : Hid (∀ W, Below w.heap.size w W → Calls Tryd.prog 53 #[.pointer (some ⟨p, 0, none⟩)] W fun e w' => e = .returned (.agg #[.int .i64 (D.n : Nat), .int .i64 (D.size : Nat), .int .i64 (D.op : Nat)]) ∧ Below W.heap.size W w') := Lib.hid fun W hW => (hL.dev.below hW).geo
  have HP : Hid (∀ W, Below w.heap.size w W → Calls Tryd.prog 24 #[.pointer (some ⟨p, 0, none⟩), .int .i64 (z : Nat)] W fun e w' => e = .returned (.int .i64 (zpt D (z : Nat))) ∧ W = w') := Lib.hid fun W hW => (hL.dev.below hW).pointer _
  have HA : Hid (∀ (W : World) (ao : Option Addr) (n c : Nat), Below w.heap.size w W → RB W (.slice ao n c) (frB b) → Calls Tryd.prog 14 #[.pointer (some ⟨p, 0, none⟩), .int .i64 (z : Nat), .slice ao n c] W fun e w' => e = .returned (.int .i64 er) ∧ LOut w B q p F D' (ys ++ [z]) w') := Lib.hid fun W ao n c hW hR => ((hL.dev.below hW).append hdn _ hR (by omega) e0).mono fun e w' ⟨h1, h2⟩ => ⟨h1, hL.turn hF hW h2⟩
  obtain ⟨g, cv, rfl, hc, kl⟩ := hL.last
  have K2 := cell_next kl
  have hne : (er != 0) = false := by subst her; rfl
  clear hL hF hr hT kl e0 her
  generalize frB b = f at *
  generalize D.size = s at *
  generalize D.n = n at *
  generalize D.op = o at *
  generalize zrm D (z : Nat) = r at *
  generalize zpt D (z : Nat) = pt at *
  generalize ys.length = y at *
  have hfd := geoField n s o
  go_enter Tryd.func29, Tryd.ntmps29
  go_wp2_with fail; (with_reducible refine (HF.out).mono ?_); rintro e w1 ⟨v1, rfl, ho1, hb1⟩
  obtain ⟨a1, n1, c1, rfl, hm1⟩ := ho1.shape
  obtain rfl := ho1.len
  have k1 := K0 _ hb1
  have HR1 := Lib.hid ho1.reads
  clear ho1
  go_wp2_with fail; (with_reducible refine (HG.out _ hb1).mono ?_); rintro e w2 ⟨rfl, hb2⟩
  have hb12 := hb1.trans (hb2.mono hb1.size)
  have HR2 := Lib.hid (HR1.out.below hb2)
  have k2 := K1 _ hb12
  go_wp2_with fail; (with_reducible refine (HRm.out _ hb12).mono ?_); rintro e w3 ⟨rfl, hb3⟩
  have hb13 := hb12.trans (hb3.mono hb12.size)
  have HR3 := Lib.hid (HR2.out.below hb3.drew)
  have m1 := K1 _ hb13
  have m2 := K2 _ hb13
  have k3 := K0 _ hb13
  have HB := Lib.hid hb13.drew
  clear hb1 hb2 hb12 hb3 hb13 k1 k2
  go_upto_region 8 with (fail)
  go_region
  all_goals
    go_wp2_with fail; (with_reducible refine (HP.out _ HB.out).mono ?_); rintro e w4 ⟨rfl, hw4⟩
    subst hw4
    go_wp2_with fail; (with_reducible refine (HA.out _ _ _ _ HB.out HR3.out).mono ?_); rintro e w5 ⟨rfl, ho5⟩
    have HO := Lib.hid ho5
    clear ho5
    go_wp2
    go_ret3
    exact ⟨rfl, HO.out⟩
set_option maxRecDepth 100000 in
set_option maxHeartbeats 4000000 in
theorem LI.append_err {ys : List Nat} {z : Nat} {er : Int} (h : LI w B q p F D (ys ++ [z])) (hy : ys.length ≤ 1000) (hT : Tab9 w) {ao : Option Addr} {c : Nat} {b : List UInt8} (hr : RB w (.slice ao b.length c) b) (hl : b.length ≤ 1000000) (h1 : (frB b).length ≤ D.size) (h2 : ((frB b).length : Int) ≤ zrm D (z : Nat)) (hdn : D.done < 4611686018427387904) (e0 : zapp D (z : Nat) (frB b) = (D', er)) (her : er ≠ 0) :
    Calls Tryd.prog 29 #[.pointer (some ⟨q, 0, none⟩), .slice ao b.length c] w fun e w' => e = .returned (.tuple #[.int .i64 0, .int .i64 0, .int .i64 er]) ∧ LOut w B q p F D' (ys ++ [z]) w' := by
  have HRm : Hid (∀ W, Below w.heap.size w W → Calls Tryd.prog 31 #[.pointer (some ⟨q, 0, none⟩)] W fun e w' => e = .returned (.int .i64 (zrm D (z : Nat))) ∧ Below W.heap.size W w') := Lib.hid fun W hW => (h.below hW).room_last hy
  have hsz : D.size ≤ 65536 := h.ok.s2
  obtain ⟨v, G, hL, hF⟩ := h
  have K0 := cell_next hL.c0
  have K1 := cell_next hL.c1
  have HF := Lib.hid (rframe hT hr (by omega))
  have HG : Hid (∀ W, Below w.heap.size w W → Calls Tryd.prog 53 #[.pointer (some ⟨p, 0, none⟩)] W fun e w' => e = .returned (.agg #[.int .i64 (D.n : Nat), .int .i64 (D.size : Nat), .int .i64 (D.op : Nat)]) ∧ Below W.heap.size W w') := Lib.hid fun W hW => (hL.dev.below hW).geo
  have HP : Hid (∀ W, Below w.heap.size w W → Calls Tryd.prog 24 #[.pointer (some ⟨p, 0, none⟩), .int .i64 (z : Nat)] W fun e w' => e = .returned (.int .i64 (zpt D (z : Nat))) ∧ W = w') := Lib.hid fun W hW => (hL.dev.below hW).pointer _
  have HA : Hid (∀ (W : World) (ao : Option Addr) (n c : Nat), Below w.heap.size w W → RB W (.slice ao n c) (frB b) → Calls Tryd.prog 14 #[.pointer (some ⟨p, 0, none⟩), .int .i64 (z : Nat), .slice ao n c] W fun e w' => e = .returned (.int .i64 er) ∧ LOut w B q p F D' (ys ++ [z]) w') := Lib.hid fun W ao n c hW hR => ((hL.dev.below hW).append hdn _ hR (by omega) e0).mono fun e w' ⟨h1, h2⟩ => ⟨h1, hL.turn hF hW h2⟩
  obtain ⟨g, cv, rfl, hc, kl⟩ := hL.last
  have K2 := cell_next kl
  have hne : (er != 0) = true := by rw [bne_iff_ne]; exact her
  clear hL hF hr hT kl e0 her
  generalize frB b = f at *
  generalize D.size = s at *
  generalize D.n = n at *
  generalize D.op = o at *
  generalize zrm D (z : Nat) = r at *
  generalize zpt D (z : Nat) = pt at *
  generalize ys.length = y at *
  have hfd := geoField n s o
  go_enter Tryd.func29, Tryd.ntmps29
  go_wp2_with fail; (with_reducible refine (HF.out).mono ?_); rintro e w1 ⟨v1, rfl, ho1, hb1⟩
  obtain ⟨a1, n1, c1, rfl, hm1⟩ := ho1.shape
  obtain rfl := ho1.len
  have k1 := K0 _ hb1
  have HR1 := Lib.hid ho1.reads
  clear ho1
  go_wp2_with fail; (with_reducible refine (HG.out _ hb1).mono ?_); rintro e w2 ⟨rfl, hb2⟩
  have hb12 := hb1.trans (hb2.mono hb1.size)
  have HR2 := Lib.hid (HR1.out.below hb2)
  have k2 := K1 _ hb12
  go_wp2_with fail; (with_reducible refine (HRm.out _ hb12).mono ?_); rintro e w3 ⟨rfl, hb3⟩
  have hb13 := hb12.trans (hb3.mono hb12.size)
  have HR3 := Lib.hid (HR2.out.below hb3.drew)
  have m1 := K1 _ hb13
  have m2 := K2 _ hb13
  have k3 := K0 _ hb13
  have HB := Lib.hid hb13.drew
  clear hb1 hb2 hb12 hb3 hb13 k1 k2
  go_upto_region 8 with (fail)
  go_region
  all_goals
    go_wp2_with fail; (with_reducible refine (HP.out _ HB.out).mono ?_); rintro e w4 ⟨rfl, hw4⟩
    subst hw4
    go_wp2_with fail; (with_reducible refine (HA.out _ _ _ _ HB.out HR3.out).mono ?_); rintro e w5 ⟨rfl, ho5⟩
    have HO := Lib.hid ho5
    clear ho5
    go_wp2
    go_ret3
    exact ⟨rfl, HO.out⟩
def lread (D : Dv) (z at' n : Int) : List UInt8 × Int :=
  if n < 0 ∨ 65536 < n then ([], 70) else
  if (zread D z at' ((4 + (num n.toNat).length + n.toNat : Nat) : Int)).2 ≠ 0 then ([], (zread D z at' ((4 + (num n.toNat).length + n.toNat : Nat) : Int)).2) else
  match oneP (zread D z at' ((4 + (num n.toNat).length + n.toNat : Nat) : Int)).1 with
  | none => ([], 22)
  | some (x, e) => if e = (zread D z at' ((4 + (num n.toNat).length + n.toNat : Nat) : Int)).1.length ∧ x.length = n.toNat then (x, 0) else ([], 22)
theorem zread_len (D : Dv) (z at' n : Int) : (zread D z at' n).1.length ≤ n.toNat := by
  rcases zcases D z with h | ⟨h1, m, rfl, h2⟩
  · rw [zread_bad h]; simp
  · unfold zread
    split
    · exact Nat.zero_le _
    · split
      · unfold zrdb
        split
        · exact Nat.zero_le _
        · simp only [List.length_take]; omega
      · exact Nat.zero_le _
def RdOut (w : World) (r : List UInt8 × Int) (e : Ending) (w' : World) : Prop := ∃ v, e = .returned (.tuple #[v, .int .i64 r.2]) ∧ OB w' w.heap.size v r.1 ∧ Below w.heap.size w w'
theorem RdOut.no {w w' : World} {r : List UInt8 × Int} {er : Int} (hr : r = ([], er)) (hb : Below w.heap.size w w') : RdOut w r (.returned (.tuple #[.slice none 0 0, .int .i64 er])) w' := by
  subst hr; exact ⟨_, rfl, OB.nil _ _, hb⟩
theorem RdOut.yes {w w' : World} {r : List UInt8 × Int} {t : List UInt8} {v : Value} (hr : r = (t, 0)) (h : OB w' w.heap.size v t) (hb : Below w.heap.size w w') : RdOut w r (.returned (.tuple #[v, .int .i64 0])) w' := by
  subst hr; exact ⟨_, rfl, h, hb⟩
set_option maxRecDepth 100000 in
set_option maxHeartbeats 4000000 in
theorem LI.readAt (h : LI w B q p F D zs) (hT : Tab9 w) (z at' n : Int) :
    Calls Tryd.prog 16 #[.pointer (some ⟨q, 0, none⟩), .int .i64 z, .int .i64 at', .int .i64 n] w (RdOut w (lread D z at' n)) := by
  obtain ⟨v, G, hL, hF⟩ := h
  have k0 := hL.c0
  have K0 := cell_next k0
  by_cases hbad : n < 0 ∨ 65536 < n
  · have e : lread D z at' n = ([], 70) := if_pos hbad
    have HE := Lib.hid e
    have h2 : n < 0 ∨ (0 ≤ n ∧ 65536 < n) := by omega
    clear e hbad hL hF
    rcases h2 with h2 | ⟨h2, h3⟩
    all_goals
      go_enter Tryd.func16, Tryd.ntmps16
      go_wp2
      go_ret2
      exact RdOut.no HE.out (Below.refl _ _)
  · obtain ⟨m, rfl⟩ := Int.eq_ofNat_of_zero_le (show 0 ≤ n by omega)
    have hm : m ≤ 65536 := by omega
    have e : lread D z at' (m : Nat) = if (zread D z at' ((4 + (num m).length + m : Nat) : Int)).2 ≠ 0 then ([], (zread D z at' ((4 + (num m).length + m : Nat) : Int)).2) else
        match oneP (zread D z at' ((4 + (num m).length + m : Nat) : Int)).1 with
        | none => ([], 22)
        | some (x, e) => if e = (zread D z at' ((4 + (num m).length + m : Nat) : Int)).1.length ∧ x.length = m then (x, 0) else ([], 22) := if_neg hbad
    have HS : Hid (∀ W : World, Calls Tryd.prog 23 #[.int .i64 (m : Nat)] W fun e w' => e = .returned (.int .i64 ((4 + (num m).length + m : Nat))) ∧ Below W.heap.size W w') := Lib.hid fun W => (rsize_any m W (by omega)).mono fun e w' ⟨h1, h2⟩ => ⟨h1, by rw [← h2]; exact Below.refl _ _⟩
    have hn9 := num_len9 (n := m) (by omega)
    have hzl := zread_len D z at' ((4 + (num m).length + m : Nat) : Int)
    have HR : Hid (∀ W, Below w.heap.size w W → Calls Tryd.prog 40 #[.pointer (some ⟨p, 0, none⟩), .int .i64 z, .int .i64 at', .int .i64 ((4 + (num m).length + m : Nat))] W fun e w' => ∃ v, e = .returned (.tuple #[v, .int .i64 (zread D z at' ((4 + (num m).length + m : Nat) : Int)).2]) ∧ OB w' W.heap.size v (zread D z at' ((4 + (num m).length + m : Nat) : Int)).1 ∧ Below W.heap.size W w') := Lib.hid fun W hW => (hL.dev.below hW).read z at' _
    have HT := Lib.hid hT
    have HE := Lib.hid e
    clear e hbad hL hF hT
    generalize zread D z at' ((4 + (num m).length + m : Nat) : Int) = y at *
    generalize lread D z at' (m : Nat) = res at *
    obtain ⟨bs, er⟩ := y
    dsimp only at *
    have hbl : bs.length ≤ 100000 := by omega
    clear hzl hn9
    generalize (4 + (num m).length + m) = sz at *
    go_enter Tryd.func16, Tryd.ntmps16
    go_upto_region 3 with (fail)
    refine wp_region_held_drew (S := fun w' => w'.cell? ⟨q, 0, none⟩ = some (.pointer (some ⟨p, 0, none⟩))) (by kernel_rfl) k0 (fun hHeld => ?_)
    refine wpAnyH_take (i := 0) (oi := ⟨some 22, _, _, _, _, _⟩) (v := ?_) rfl (by kernel_rfl) (by kernel_rfl) (by kernel_rfl) (fun _ _ _ h => h) (Or.inl ⟨by rfl, ?_⟩) (by assumption) ?_
    rotate_left
    · intro w hSw
      (try dsimp only at hSw)
      go_simp
      (try with_reducible rfl)
    (try simp only [Act.put, List.setIfInBounds_toArray, List.set_cons_zero, List.set_cons_succ])
    refine wpAnyH_take (i := 1) (oi := ⟨some 23, _, _, _, _, _⟩) (v := ?_) rfl (by kernel_rfl) (by kernel_rfl) (by kernel_rfl) (fun _ _ _ h => h) (Or.inl ⟨by rfl, ?_⟩) (by assumption) ?_
    rotate_left
    · intro w hSw
      (try dsimp only at hSw)
      go_simp
      (try with_reducible rfl)
    (try simp only [Act.put, List.setIfInBounds_toArray, List.set_cons_zero, List.set_cons_succ])
    refine wpAnyH_take (i := 2) (oi := ⟨some 24, _, _, _, _, _⟩) (v := ?_) rfl (by kernel_rfl) (by kernel_rfl) (by kernel_rfl) (fun _ _ _ h => h) (Or.inl ⟨by rfl, ?_⟩) (by assumption) ?_
    rotate_left
    · intro w hSw
      (try dsimp only at hSw)
      go_simp
      (try with_reducible rfl)
    (try simp only [Act.put, List.setIfInBounds_toArray, List.set_cons_zero, List.set_cons_succ])
    refine wpAnyH_take (i := 3) (oi := ⟨some 25, _, _, _, _, _⟩) (v := ?_) rfl (by kernel_rfl) (by kernel_rfl) (by kernel_rfl) (fun _ _ _ h => h) (Or.inl ⟨by rfl, ?_⟩) (by assumption) ?_
    rotate_left
    · intro w hSw
      (try dsimp only at hSw)
      go_simp
      (try with_reducible rfl)
    (try simp only [Act.put, List.setIfInBounds_toArray, List.set_cons_zero, List.set_cons_succ])
    refine wpAnyH_take (i := 4) (oi := ⟨some 26, _, _, _, _, _⟩) (v := ?_) rfl (by kernel_rfl) (by kernel_rfl) (by kernel_rfl) (fun _ _ _ h => h) (Or.inl ⟨by rfl, ?_⟩) (by assumption) ?_
    rotate_left
    · intro w hSw
      (try dsimp only at hSw)
      go_simp
      (try with_reducible rfl)
    (try simp only [Act.put, List.setIfInBounds_toArray, List.set_cons_zero, List.set_cons_succ])
    refine wpAnyH_take (i := 5) (oi := ⟨some 27, _, _, _, _, _⟩) (v := ?_) rfl (by kernel_rfl) (by kernel_rfl) (by kernel_rfl) (fun _ _ _ h => h) (Or.inl ⟨by rfl, ?_⟩) (by assumption) ?_
    rotate_left
    · intro w hSw
      (try dsimp only at hSw)
      go_simp
      (try with_reducible rfl)
    (try simp only [Act.put, List.setIfInBounds_toArray, List.set_cons_zero, List.set_cons_succ])
    refine wpAnyH_take (i := 6) (oi := ⟨some 28, _, _, _, _, _⟩) (v := ?_) rfl (by kernel_rfl) (by kernel_rfl) (by kernel_rfl) (fun _ _ _ h => h) (Or.inl ⟨by rfl, ?_⟩) (by assumption) ?_
    rotate_left
    · intro w hSw
      (try dsimp only at hSw)
      go_simp
      (try with_reducible rfl)
    (try simp only [Act.put, List.setIfInBounds_toArray, List.set_cons_zero, List.set_cons_succ])
    refine wpAnyH_ready (rs := [7]) (by kernel_rfl) (by simp) ?_
    refine AllReadyH.cons (o := ⟨some 29, _, _, _, _, _⟩) rfl (fun K hK => ?_) ?_
    · go_simp
      (with_reducible refine (HS.out _).mono ?_)
      rintro e w4 ⟨rfl, hb4⟩
      go_wp2_with fail
      have hb4' : Below w.heap.size w w4 := (Below.refl _ w).drew.trans hb4
      refine hK.out _ _ ?_ (fun hHeld => ?_)
      · exact K0 _ hb4'
      clear hK K
      (try simp only [Act.put, List.setIfInBounds_toArray, List.set_cons_zero, List.set_cons_succ])
      refine wpAnyH_ready (rs := [8]) (by kernel_rfl) (by simp) ?_
      refine AllReadyH.cons (o := ⟨some 30, _, _, _, _, _⟩) rfl (fun K hK => ?_) ?_
      · go_simp
        (with_reducible refine (HR.out _ hb4').mono ?_)
        rintro e w5 ⟨v5, rfl, ho5, hb5⟩
        go_wp2_with fail
        have hb5' := hb4'.trans (hb5.mono hb4'.size)
        have HO5 := Lib.hid ho5
        have HB4 := Lib.hid hb4'
        obtain ⟨a5, n5, c5, rfl, hm5⟩ := ho5.shape
        obtain rfl := ho5.len
        refine hK.out _ _ ?_ (fun hHeld => ?_)
        · exact K0 _ hb5'
        clear hK K
        (try simp only [Act.put, List.setIfInBounds_toArray, List.set_cons_zero, List.set_cons_succ])
        refine wpAnyH_take (i := 9) (oi := ⟨some 21, _, _, _, _, _⟩) (v := ?_) rfl (by kernel_rfl) (by kernel_rfl) (by kernel_rfl) (fun _ _ _ h => h) (Or.inl ⟨by rfl, ?_⟩) (by assumption) ?_
        rotate_left
        · intro w hSw
          (try dsimp only at hSw)
          go_simp
          (try with_reducible rfl)
        (try simp only [Act.put, List.setIfInBounds_toArray, List.set_cons_zero, List.set_cons_succ])
        refine wpAnyH_take (i := 10) (oi := ⟨some 31, _, _, _, _, _⟩) (v := ?_) rfl (by kernel_rfl) (by kernel_rfl) (by kernel_rfl) (fun _ _ _ h => h) (Or.inl ⟨by rfl, ?_⟩) (by assumption) ?_
        rotate_left
        · intro w hSw
          (try dsimp only at hSw)
          go_simp
          (try with_reducible rfl)
        (try simp only [Act.put, List.setIfInBounds_toArray, List.set_cons_zero, List.set_cons_succ])
        refine wpAnyH_take (i := 11) (oi := ⟨some 32, _, _, _, _, _⟩) (v := ?_) rfl (by kernel_rfl) (by kernel_rfl) (by kernel_rfl) (fun _ _ _ h => h) (Or.inl ⟨by rfl, ?_⟩) (by assumption) ?_
        rotate_left
        · intro w hSw
          (try dsimp only at hSw)
          go_simp
          (try with_reducible rfl)
        (try simp only [Act.put, List.setIfInBounds_toArray, List.set_cons_zero, List.set_cons_succ])
        refine wpAnyH_take (i := 12) (oi := ⟨some 10, _, _, _, _, _⟩) (v := ?_) rfl (by kernel_rfl) (by kernel_rfl) (by kernel_rfl) (fun _ _ _ h => h) (Or.inl ⟨by rfl, ?_⟩) (by assumption) ?_
        rotate_left
        · intro w hSw
          (try dsimp only at hSw)
          go_simp
          (try with_reducible rfl)
        (try simp only [Act.put, List.setIfInBounds_toArray, List.set_cons_zero, List.set_cons_succ])
        refine wpAnyH_take (i := 13) (oi := ⟨some 11, _, _, _, _, _⟩) (v := ?_) rfl (by kernel_rfl) (by kernel_rfl) (by kernel_rfl) (fun _ _ _ h => h) (Or.inl ⟨by rfl, ?_⟩) (by assumption) ?_
        rotate_left
        · intro w hSw
          (try dsimp only at hSw)
          go_simp
          (try with_reducible rfl)
        (try simp only [Act.put, List.setIfInBounds_toArray, List.set_cons_zero, List.set_cons_succ])
        refine wpAnyH_done (by kernel_rfl) ?_ _
        have HB5 := Lib.hid hb5'
        clear hb4 hb4' hb5 hb5' ho5 hHeld HR HS K0 k0
        by_cases her : er = 0
        · have hne : (er != 0) = false := by subst her; rfl
          have hE := HE.out
          rw [if_neg (by simpa using her)] at hE
          have HE2 := Lib.hid hE
          have HO := Lib.hid (one_any (HT.out.below HB5.out) HO5.out.reads (by omega))
          have HER := Lib.hid her
          clear hE HE her
          go_wp2_with fail; (with_reducible refine (HO.out).mono ?_); rintro e w6 ⟨hb6, ho6⟩
          have HB6 := Lib.hid (HB5.out.trans (hb6.mono HB5.out.size))
          have hz5 := HB5.out.size
          clear hb6 HO
          cases e1 : oneP bs with
          | none =>
            rw [e1] at ho6
            obtain rfl := ho6
            have HE3 : Hid (res = ([], 22)) := Lib.hid (by have := HE2.out; rw [e1] at this; exact this)
            clear HE2 e1
            go_wp2
            go_ret2
            exact RdOut.no HE3.out HB6.out
          | some x =>
            obtain ⟨t, k⟩ := x
            rw [e1] at ho6
            obtain ⟨a6, c6, rfl, ho6, hc6⟩ := ho6
            have HO6 := Lib.hid (ho6.mono hz5)
            have hE := HE2.out
            rw [e1] at hE
            dsimp only at hE
            have HE3 := Lib.hid hE
            clear hE HE2 e1 ho6
            by_cases hk : k = bs.length
            · have hkb : ((k : Int) != (bs.length : Int)) = false := by rw [bne_eq_false_iff_eq]; omega
              by_cases ht : t.length = m
              · have htb : ((t.length : Int) != (m : Int)) = false := by rw [bne_eq_false_iff_eq]; omega
                have HE4 := Lib.hid (HE3.out.trans (if_pos ⟨hk, ht⟩))
                clear hk ht HE3
                go_wp2
                go_ret2
                exact RdOut.yes HE4.out HO6.out HB6.out
              · have htb : ((t.length : Int) != (m : Int)) = true := by rw [bne_iff_ne]; omega
                have HE4 := Lib.hid (HE3.out.trans (if_neg (fun h => ht h.2)))
                clear hk ht HE3
                go_wp2
                go_ret2
                exact RdOut.no HE4.out HB6.out
            · have hkb : ((k : Int) != (bs.length : Int)) = true := by rw [bne_iff_ne]; omega
              have HE4 := Lib.hid (HE3.out.trans (if_neg (fun h => hk h.1)))
              clear hk HE3
              go_wp2
              go_ret2
              exact RdOut.no HE4.out HB6.out
        · have hne : (er != 0) = true := by rw [bne_iff_ne]; exact her
          have HE4 := Lib.hid (HE.out.trans (if_pos her))
          clear her HE
          go_wp2
          go_ret2
          exact RdOut.no HE4.out HB5.out
      · exact AllReadyH.nil
    · exact AllReadyH.nil
end
end Go.Proofs.YtmhklmecpbdljaaDoor
