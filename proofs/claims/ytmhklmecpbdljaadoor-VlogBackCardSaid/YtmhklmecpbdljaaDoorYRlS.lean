/- Chapter 09: the records of bytes: frames, Scan. -/
import Derived.RangeFuncBox
import Derived.TacticsInMore
import Derived.LoopNIn
import Derived.LoopIn
import Derived.Maps.AppendAt
import Derived.Test.YtmhklmecpbdljaaDoorYRng
import Derived.Test.YtmhklmecpbdljaaDoorYRlW
namespace Go.Proofs.YtmhklmecpbdljaaDoor
open Go.RowKit Go.Shelf
set_option linter.unusedVariables false
set_option linter.unusedSimpArgs false
attribute [local go_sem] Oper.semAt_some

/-- a record that was read: where it lies, its bytes, where its frame ends -/
structure RX where
  ao : Option Addr
  c : Nat
  l : List UInt8
  e : Nat
def RX.v (x : RX) : Value := .slice x.ao x.l.length x.c
def RX.enc (x : RX) : Array Value := #[.slice x.ao x.l.length x.c, .int .i64 (x.e : Nat)]
def flR (L : List (List UInt8)) : List UInt8 := L.flatMap frB
theorem flR_snoc (L : List (List UInt8)) (t : List UInt8) : flR (L ++ [t]) = flR L ++ frB t := by simp [flR]
theorem flR_len (L : List (List UInt8)) : 5 * L.length ≤ (flR L).length := by
  induction L with
  | nil => simp [flR]
  | cons t L ih =>
    have := frB_pos t
    have e : (flR (t :: L)).length = (frB t).length + (flR L).length := by simp [flR]
    rw [e, List.length_cons]; omega
def XR (B0 : Nat) (pre : List RX) (x : RX) (W : World) : Prop :=
  OB W B0 (.slice x.ao x.l.length x.c) x.l ∧ x.c ≤ maxLen ∧ x.e = (flR (pre.map RX.l ++ [x.l])).length ∧ x.e ≤ 100000000000
def KpR (n₀ b : Nat) (A B : World) : Prop := Below n₀ A B ∧ ∀ v, A.cell? ⟨b, 0, none⟩ = some v → B.cell? ⟨b, 0, none⟩ = some v
theorem KpR.trans {n₀ b : Nat} {A B C : World} (h : KpR n₀ b A B) (k : KpR n₀ b B C) : KpR n₀ b A C := ⟨h.1.trans k.1, fun v hv => k.2 v (h.2 v hv)⟩
theorem KpR.put {n₀ b : Nat} {w : World} (hn : n₀ ≤ w.heap.size) (W : World) (l : Nat) (o o' : Obj) (hl : w.heap.size ≤ l) (h : W.heap[l]? = some o) (hc : o.isCells = false) (hw : o.isWalk = false) : KpR n₀ b W (W.putObj l o') :=
  ⟨belowK_b hn W l o o' hl h hc hw, fun v hv => cell_kept hv (grownBy_putObj' W l o') (fun r e => by cases e; exact ⟨o, h, hc⟩)⟩
theorem KpR.of_below {n₀ b : Nat} {A B : World} (h : Below A.heap.size A B) (hn : n₀ ≤ A.heap.size) : KpR n₀ b A B := ⟨h.mono hn, fun v hv => cell_next hv _ h⟩
theorem grown_of_below {A B : World} (h : Below A.heap.size A B) : A.grownBy B none := ⟨h.os, h.tape, h.output, h.size, fun k hk _ => h.block k hk⟩
theorem scan_step {b t : List UInt8} {L : List (List UInt8)} {rest : List UInt8} {n : Nat} (hb : b = flR L ++ rest) (h : oneP rest = some (t, n)) : ∃ r, b = flR (L ++ [t]) ++ r ∧ (flR (L ++ [t])).length = (flR L).length + n ∧ t.length < 9223372036854775808 ∧ rest.drop n = r ∧ b.drop (flR (L ++ [t])).length = r := by
  obtain ⟨e1, e2, r, rfl⟩ := one_is h
  refine ⟨r, by rw [hb, flR_snoc, List.append_assoc], by rw [flR_snoc, List.length_append, e1], e2, by rw [e1, List.drop_left], ?_⟩
  rw [hb, ← List.append_assoc, ← flR_snoc, List.drop_left]
/-- what 'one' told, in slots -/
def OnP (B : Nat) (o : Option (List UInt8 × Nat)) (ao : Option Addr) (len c m : Nat) (ok : Bool) (W : World) : Prop :=
  match o with
  | none => ok = false
  | some (t, k) => ok = true ∧ m = k ∧ len = t.length ∧ OB W B (.slice ao len c) t ∧ c ≤ maxLen
theorem OneOut.form {w w' : World} {o : Option (List UInt8 × Nat)} {e : Ending} (h : OneOut w o e w') : ∃ (ao : Option Addr) (len c m : Nat) (ok : Bool), e = .returned (.tuple #[.slice ao len c, .int .i64 (m : Nat), .bool ok]) ∧ Below w.heap.size w w' ∧ OnP w.heap.size o ao len c m ok w' := by
  obtain ⟨hb, h⟩ := h
  match o, h with
  | none, h => exact ⟨none, 0, 0, 0, false, h, hb, rfl⟩
  | some (t, n), ⟨ao, c, h1, h2, h3⟩ => exact ⟨ao, t.length, c, n, true, h1, hb, rfl, rfl, rfl, h2, h3⟩
theorem OnP.mono {B C : Nat} {o : Option (List UInt8 × Nat)} {ao : Option Addr} {len c m : Nat} {ok : Bool} {W : World} (h : OnP B o ao len c m ok W) (hC : C ≤ B) : OnP C o ao len c m ok W := by
  match o, h with
  | none, h => exact h
  | some (t, n), ⟨h1, h2, h3, h4, h5⟩ => exact ⟨h1, h2, h3, h4.mono hC, h5⟩
set_option maxRecDepth 100000 in
set_option maxHeartbeats 2000000 in
theorem frames1_held (n : Nat) (hn : 1 ≤ n) (b1 n₀ : Nat) (ao : Option Addr) (c : Nat) (b : List UInt8) (hl : b.length ≤ 100000000000) (w : World) (hn₀ : n₀ ≤ w.heap.size)
    (hb1 : w.cell? ⟨b1, 0, none⟩ = some (.slice ao b.length c)) (hT : ∀ W, Below n₀ w W → Tab9 W) (hR : ∀ W, Below n₀ w W → RB W (.slice ao b.length c) b) :
    SeqHeld Fence.wide n Tryd.prog 83 #[.pointer (some ⟨b1, 0, none⟩)] RX.enc (KpR n₀ b1) (XR w.heap.size) (fun xs => ScanIs b (xs.map RX.l)) w := by
  intro l J W hW hJ hY h0
  refine callsIn_of_wp Tryd.func83 rfl trivial ?_ rfl
  simp only [Tryd.ntmps83, List.size_toArray, List.length_cons, List.length_nil, Nat.reduceAdd, Nat.reduceSub, Array.replicate_succ, Array.replicate_zero, List.push_toArray, List.append_toArray, List.nil_append, List.cons_append]
  have hWn := hW.mono hn₀
  have c1 := cell_next hb1 _ hW
  have C1 := Lib.hid c1
  have H1 := Lib.hid (one_any (hT W hWn) (hR W hWn) hl)
  gi_wp2_with (refine ⟨trivial, ?_⟩; gi_at_call 41; refine (callsIn_wide.2 H1.out).mono ?_; rintro e w1 ho; obtain ⟨oa, ol, oc, om, ok, rfl, hb0, hop⟩ := ho.form; clear ho c1)
  have hJ1 : J [] w1 := hJ [] W w1 none h0 (grown_of_below hb0) (fun r e => by cases e)
  have hK1 : KpR n₀ b1 W w1 := KpR.of_below hb0 (Nat.le_trans hn₀ hW.size)
  have HP1 := Lib.hid (hop.mono hW.size)
  clear hop hb0 H1
  gi_loopw [3, 4, 5, 6] (fun u v m o wr => ∃ (xs : List RX) (rest : List UInt8) (oa : Option Addr) (ol oc om : Nat) (ok : Bool), u = .int .i64 ((flR (xs.map RX.l)).length : Nat) ∧ v = .slice oa ol oc ∧ m = .int .i64 (om : Nat) ∧ o = .bool ok ∧
      b = flR (xs.map RX.l) ++ rest ∧ (∀ t ∈ xs.map RX.l, t.length < 9223372036854775808) ∧ OnP w.heap.size (oneP rest) oa ol oc om ok wr ∧ J xs wr ∧ KpR n₀ b1 W wr)
    (fun u _ _ _ _ => b.length - (intOf u).toNat)
  case atStart => exact ⟨[], b, oa, ol, oc, om, ok, rfl, rfl, rfl, rfl, rfl, fun t ht => (nomatch ht), HP1.out, hJ1, hK1⟩
  case round =>
    obtain ⟨xs, rest, oa, ol, oc, om, ok, rfl, rfl, rfl, rfl, hb, hall, hop, hJs, hnx⟩ := hrel
    have hWr := hWn.trans hnx.1
    have hbl := congrArg List.length hb
    rw [List.length_append] at hbl
    cases hO : oneP rest with
    | none =>
      rw [hO] at hop
      obtain rfl : ok = false := hop
      gi_wp2
      go_end0
      exact ⟨⟨_, rfl⟩, xs, ⟨hall, rest, hb, hO⟩, hJs⟩
    | some y =>
      obtain ⟨t, k⟩ := y
      rw [hO] at hop
      obtain ⟨rfl, rfl, rfl, hob, hoc⟩ := hop
      obtain ⟨rest', hb', hfl, ht, hdr, hdr2⟩ := scan_step hb hO
      have hbl' := congrArg List.length hb'
      rw [List.length_append] at hbl'
      have h5 : 5 ≤ om := by
        have := (one_is hO).1
        have := frB_pos t
        omega
      obtain ⟨E, hE⟩ : ∃ E, (flR (xs.map RX.l ++ [t])).length = E := ⟨_, rfl⟩
      rw [hE] at hfl hbl' hdr2
      obtain ⟨fn, tmps, assign, body, hy, hR2⟩ := hY xs ⟨oa, oc, t, E⟩ wr hJs ⟨hob, hoc, hE.symm, (show E ≤ 100000000000 by omega)⟩
      dsimp only [RX.enc] at hy
      have hHb' := Lib.hid hb'
      have hHE := Lib.hid hE
      clear hb' hE
      generalize (flR (xs.map RX.l)).length = G at *
      have hGE : ((E : Nat) : Int) = (G : Int) + (om : Int) := by omega
      rw [hGE] at hy
      have HGE := Lib.hid hGE
      have hbd : G + om ≤ 100000000000 := by omega
      have HFL := Lib.hid hfl
      have HBL := Lib.hid hbl'
      have hEb : E ≤ b.length := by omega
      clear hGE hfl hbl' hbl
      have HM : Hid (b.length - E < b.length - G) := Lib.hid (by have := HFL.out; have := HBL.out; omega)
      clear hob hoc hb hO
      gi_wp2
      refine hR2.mono ?_
      rintro e W3 ⟨rfl, hJ3, hk3⟩
      rw [← HGE.out]
      have c3 := hk3.2 _ (hnx.2 _ C1.out)
      have hK3 := hnx.trans hk3
      have hW3 := hWn.trans hK3.1
      have hrb := hR W3 hW3
      have hcap := hrb.capl
      have hz3 : w.heap.size ≤ W3.heap.size := Nat.le_trans hW.size hK3.1.size
      by_cases hc : E < c
      · obtain ⟨k, off, rfl⟩ := hrb.addr (by have := HFL.out; omega)
        have hd : RB W3 (.slice (some ⟨k, off + E, none⟩) (b.length - E) (c - E)) (b.drop E) := rb_drop hrb (by omega) (by omega)
        rw [hdr2] at hd
        have hel : b.length - E = rest'.length := by have := HBL.out; omega
        rw [hel] at hd
        have H2 := Lib.hid (one_any (hT W3 hW3) hd (by have := HBL.out; omega))
        clear hd hrb hR2 hy
        rw [← hel] at H2
        clear hel
        have hJ4 : ∀ w4, Below W3.heap.size W3 w4 → J (xs ++ [⟨oa, oc, t, E⟩]) w4 := fun w4 h4 => hJ _ W3 w4 none hJ3 (grown_of_below h4) (fun r e => by cases e)
        gi_wp2_with (refine ⟨trivial, ?_⟩; gi_at_call 41; with_reducible refine (callsIn_wide.2 H2.out).mono ?_; rintro e w1 ho; obtain ⟨oa2, ol2, oc2, om2, ok2, rfl, hb0, hop⟩ := ho.form; clear ho)
        have hall' : ∀ u ∈ (xs ++ [(⟨oa, oc, t, E⟩ : RX)]).map RX.l, u.length < 9223372036854775808 := fun u hu => by
          rw [List.map_append, List.mem_append] at hu
          rcases hu with hu | hu
          · exact hall u hu
          · obtain rfl : u = t := by simpa using hu
            exact ht
        have hL : (xs ++ [(⟨oa, oc, t, E⟩ : RX)]).map RX.l = xs.map RX.l ++ [t] := by simp
        exact ⟨⟨xs ++ [⟨oa, oc, t, E⟩], rest', oa2, ol2, oc2, om2, ok2, by rw [hL, hHE.out], rfl, rfl, rfl, by rw [hL]; exact hHb'.out, hall', hop.mono hz3, hJ4 _ hb0, hK3.trans (KpR.of_below hb0 (Nat.le_trans hn₀ hz3))⟩, by have := HM.out; simpa [intOf] using this⟩
      · obtain rfl : E = b.length := by omega
        obtain rfl : c = b.length := by omega
        have hr0 : rest' = [] := List.eq_nil_of_length_eq_zero (by have := HBL.out; omega)
        obtain ⟨k, off, rfl⟩ := hrb.addr (by have := HFL.out; omega)
        have H2 : Hid (Calls Tryd.prog 41 #[.slice (some ⟨k, off, none⟩) 0 0] W3 (OneOut W3 (oneP rest'))) := Lib.hid (by
          rw [hr0]
          exact one_any (b := []) (hT W3 hW3) (RB.nil W3 _ _) (by decide))
        clear hrb hR2 hy hcap
        have hJ4 : ∀ w4, Below W3.heap.size W3 w4 → J (xs ++ [⟨oa, oc, t, b.length⟩]) w4 := fun w4 h4 => hJ _ W3 w4 none hJ3 (grown_of_below h4) (fun r e => by cases e)
        gi_wp2_with (refine ⟨trivial, ?_⟩; gi_at_call 41; with_reducible refine (callsIn_wide.2 H2.out).mono ?_; rintro e w1 ho; obtain ⟨oa2, ol2, oc2, om2, ok2, rfl, hb0, hop⟩ := ho.form; clear ho)
        have hall' : ∀ u ∈ (xs ++ [(⟨oa, oc, t, b.length⟩ : RX)]).map RX.l, u.length < 9223372036854775808 := fun u hu => by
          rw [List.map_append, List.mem_append] at hu
          rcases hu with hu | hu
          · exact hall u hu
          · obtain rfl : u = t := by simpa using hu
            exact ht
        have hL : (xs ++ [(⟨oa, oc, t, b.length⟩ : RX)]).map RX.l = xs.map RX.l ++ [t] := by simp
        exact ⟨⟨xs ++ [⟨oa, oc, t, b.length⟩], rest', oa2, ol2, oc2, om2, ok2, by rw [hL, hHE.out], rfl, rfl, rfl, by rw [hL]; exact hHb'.out, hall', hop.mono hz3, hJ4 _ hb0, hK3.trans (KpR.of_below hb0 (Nat.le_trans hn₀ hz3))⟩, by have := HM.out; simpa [intOf] using this⟩
end Go.Proofs.YtmhklmecpbdljaaDoor
