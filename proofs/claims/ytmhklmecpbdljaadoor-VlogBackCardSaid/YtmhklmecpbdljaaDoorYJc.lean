/- Texts joined: Vl1, Vl2, Vl3, Vl4. -/
import Derived.Test.YtmhklmecpbdljaaDoorYIkChecks
import Derived.Test.YtmhklmecpbdljaaDoorYRlF
import Derived.Test.YtmhklmecpbdljaaDoorYRlW
import Derived.Test.YtmhklmecpbdljaaDoorYJb
import Derived.Test.YtmhklmecpbdljaaDoorYPl1
/- Chapter 14: a value's record, and its size. -/

namespace Go.Proofs.YtmhklmecpbdljaaDoor
open Go.RowKit
set_option linter.unusedVariables false
set_option linter.unusedSimpArgs false

/-- the record of a value -/
def recB (u : ByteArray) (s k : Int) (v : ByteArray) : List UInt8 := txtB (keyBytes u.data.toList s k) ++ txtB v.data.toList
theorem vdataLen (u : ByteArray) : u.data.toList.length = u.size := by rw [Array.length_toList]; rfl
theorem vrow_bytes {w : World} {u : ByteArray} {cap g : Nat} {e : TypeId} {fr : Nat × Nat} (hc : u.size ≤ cap) (hh : w.heap[g]? = some (.cells (bytesRow u cap) e fr)) : RB w (.slice (some ⟨g, 0, none⟩) u.size cap) u.data.toList := by
  have hl := vdataLen u
  refine ⟨_, cap, by rw [hl], by rw [hl]; exact hc, fun _ => ⟨_, 0, rfl, fun j hj => ?_⟩⟩
  rw [hl] at hj
  rw [Nat.zero_add, cell_of_row _ _ _ _ _ _ hh]
  unfold bytesRow
  have hj' : j < u.data.size := hj
  rw [Array.getElem?_append_left (by simpa using hj')]
  rw [Array.getElem?_map, Array.getElem?_eq_getElem hj']
  simp [bv]
theorem vnew_drew {w : World} {o : Obj} {g : Nat} (h : g = w.heap.size) : (w.alloc o).drew.heap[g]? = some o := by subst h; exact heap_alloc_new w o
theorem right_size {u : ByteArray} {s k : Int} (h : keyRight u s k = true) : u.size ≤ 64 ∧ (keyBytes u.data.toList s k).length ≤ 137 := by
  simp only [keyRight, decide_eq_true_eq] at h
  have := keyBytes_len u.data.toList s k
  have := vdataLen u
  omega
theorem recB_len {u : ByteArray} {s k : Int} (h : keyRight u s k = true) (v : ByteArray) (hv : v.size ≤ 1000000) : (recB u s k v).length ≤ 155 + v.size := by
  have h1 := (right_size h).2
  have h9 := num_len9 (n := (keyBytes u.data.toList s k).length) (by omega)
  have h8 := num_len9 (n := v.size) (by omega)
  unfold recB txtB
  simp only [List.length_append, vdataLen]
  omega
theorem cells3n {w : World} {a b c : Value} {T : TypeId} : (w.alloc (.cells #[a, b, c] T)).cell? ⟨w.heap.size, 0, none⟩ = some a ∧ (w.alloc (.cells #[a, b, c] T)).cell? ⟨w.heap.size, 1, none⟩ = some b ∧ (w.alloc (.cells #[a, b, c] T)).cell? ⟨w.heap.size, 2, none⟩ = some c := by
  have h := heap_alloc_new w (.cells #[a, b, c] T)
  refine ⟨?_, ?_, ?_⟩ <;> (rw [cell_of_row _ _ _ _ _ _ h]; rfl)
set_option maxRecDepth 100000 in
set_option maxHeartbeats 4000000 in
theorem record_bad (u : ByteArray) (s k : Int) (v : ByteArray) (w : World) (h : keyRight u s k = false) :
    Calls Tryd.prog 35 #[.agg #[.string u, .int .i64 s, .int .i64 k], .string v] w fun e w' => e = .returned (.tuple #[.slice none 0 0, .int .i64 30]) ∧ Below w.heap.size w w' := by
  obtain ⟨q0, q1, q2⟩ := cells3n (w := w) (a := .string u) (b := .int .i64 s) (c := .int .i64 k) (T := 27)
  go_enter Tryd.func35, Tryd.ntmps35
  go_wp2_with fail; (with_reducible refine (keybytes_bad u s k _ h).mono ?_); rintro e w1 ⟨rfl, hb1⟩
  go_wp2
  go_ret2
  exact ⟨rfl, ((Below.refl _ w).alloc (Nat.le_refl _) _).trans (hb1.mono (by simp))⟩
set_option maxRecDepth 100000 in
set_option maxHeartbeats 4000000 in
theorem record_ok (u : ByteArray) (s k : Int) (v : ByteArray) (w : World) (h : keyRight u s k = true) (hv : v.size ≤ 1000000) :
    Calls Tryd.prog 35 #[.agg #[.string u, .int .i64 s, .int .i64 k], .string v] w (BytesOut w (recB u s k v)) := by
  obtain ⟨q0, q1, q2⟩ := cells3n (w := w) (a := .string u) (b := .int .i64 s) (c := .int .i64 k) (T := 27)
  have hrl := recB_len h v hv
  have hkl := (right_size h).2
  have hba : Below w.heap.size w (w.alloc (.cells #[.string u, .int .i64 s, .int .i64 k] 27)) := (Below.refl _ w).alloc (Nat.le_refl _) _
  have HBA := Lib.hid hba
  have hconv := fun (w : World) => run_bytes_of_string (P := Tryd.prog) w 9 23 5 v Tryd.underlying9 Tryd.underlying23 Tryd.underlying5
  have hek : recB u s k v = ([] ++ num (keyBytes u.data.toList s k).length ++ keyBytes u.data.toList s k) ++ num v.size ++ v.data.toList := by
    unfold recB txtB; rw [vdataLen]; simp
  have HEK := Lib.hid hek
  have HK := Lib.hid (keybytes u s k (w.alloc (.cells #[.string u, .int .i64 s, .int .i64 k] 27)) h)
  clear hba hek h
  generalize recB u s k v = R at *
  generalize keyBytes u.data.toList s k = X at *
  go_enter Tryd.func35, Tryd.ntmps35
  go_wp2_with fail; (with_reducible refine (HK.out).mono ?_); rintro e w1 ⟨v1, rfl, ho1, hb1⟩
  obtain ⟨a1, n1, c1, rfl, hm1⟩ := ho1.shape
  obtain rfl := ho1.len
  have HB1 := Lib.hid (HBA.out.trans (hb1.mono HBA.out.size))
  have hw0 := WR.new9 w1
  have hb0 := wr_new9 w1
  have z0 : w1.heap.size ≤ (w1.alloc (.cells #[.slice none 0 0, .bool false] 101)).heap.size := hb0.size
  have h1 := wtext hw0 (ho1.reads.below hb0) (fun hp k hk hf => by
    have h1 := (ho1.lt hk).2
    rcases hf with rfl | hf
    · omega
    · simp [Value.ownBlock] at hf) (by rw [List.length_nil]; omega) z0
  have H1 := Lib.hid h1
  have HB01 := Lib.hid (HB1.out.trans (hb0.mono HB1.out.size))
  have HG := Lib.hid (fun k hk => hw0.ge (Nat.le_refl _) k hk)
  have hwz := HB1.out.size
  clear h1 hw0 ho1 hb1 hb0 HK HBA q0 q1 q2
  go_wp2_with fail; (with_reducible refine (H1.out).mono ?_); rintro e w2 ⟨rfl, v2, hw2, hc2, hl2⟩
  have hb2 : Below w1.heap.size _ w2 := hc2.below HG.out z0
  have HB2 := Lib.hid (HB01.out.trans (hb2.mono hwz))
  have hz2 : w1.heap.size ≤ w2.heap.size := by have := hc2.size; omega
  have hg2 : ∀ k, fpW w1.heap.size v2 k → w1.heap.size ≤ k ∧ k < w2.heap.size := fun k hk => ⟨hw2.ge (Nat.le_refl _) k hk, hw2.lt k hk⟩
  have HG2 := Lib.hid hg2
  have hlX : ([] ++ num X.length ++ X : List UInt8).length + 9 + v.size ≤ 140737488355328 := by
    have := num_len9 (n := X.length) (by omega)
    simp only [List.length_append, List.length_nil]; omega
  have H2 : Hid (∀ (W : World) g cap fr, W.heap[g]? = some (.cells (bytesRow v cap) 5 fr) → v.size ≤ cap → Below w2.heap.size w2 W → w2.heap.size ≤ g → Calls Tryd.prog 60 #[.pointer (some ⟨w1.heap.size, 0, none⟩), .slice (some ⟨g, 0, none⟩) v.size cap] W (fun e w' => e = .returned (.pointer (some ⟨w1.heap.size, 0, none⟩)) ∧ (∃ v', WR w' w1.heap.size w1.heap.size v' R false) ∧ Below w1.heap.size W w')) := Lib.hid fun W g cap fr hg hc hb hz => by
    have hr := vrow_bytes hc hg
    have key : ∀ n, n = v.data.toList.length → RB W (.slice (some ⟨g, 0, none⟩) n cap) v.data.toList → Calls Tryd.prog 60 #[.pointer (some ⟨w1.heap.size, 0, none⟩), .slice (some ⟨g, 0, none⟩) n cap] W (WOut W w1.heap.size w1.heap.size v2 (([] ++ num X.length ++ X) ++ num v.data.toList.length ++ v.data.toList) false) := fun n hn hr => by
      subst hn
      refine wtext (hw2.below hb) hr (fun hp k hk hf => ?_) (by rw [vdataLen]; exact hlX) (by have := hb.size; omega)
      have : g = k := by simpa [Value.ownBlock] using hk
      have := (hg2 k hf).2
      omega
    refine (key v.size (vdataLen v).symm hr).mono ?_
    rintro e w' ⟨h1, v', h2, h3, _⟩
    refine ⟨h1, ⟨v', ?_⟩, h3.below (fun k hk => (hg2 k hk).1) (by have := hb.size; omega)⟩
    rw [HEK.out, ← vdataLen v]
    exact h2
  clear hw2 hc2 hl2 hb2 hlX hg2 H1
  go_wp2_with fail
  with_reducible refine (H2.out _ _ _ (_, _) (vnew_drew ?hg) (grownCap_ge _ _ _ _) ?hb ?hz).mono ?_
  case hg => simp
  case hz => simp
  case hb => exact ((Below.refl _ w2).alloc (Nat.le_refl _) _).drew
  rintro e w3 ⟨rfl, ⟨v3, hw3⟩, hb3⟩
  have HB3 : Hid (Below w.heap.size w w3) := Lib.hid ((HB2.out.trans (((Below.refl w2.heap.size w2).alloc (Nat.le_refl _) _).drew.mono HB2.out.size)).trans (hb3.mono hwz))
  have H3 := Lib.hid (wbytes hw3 (by omega))
  clear hw3 hb3 hconv H2
  go_wp2_with fail; (with_reducible refine (H3.out).mono ?_); rintro e w4 ⟨v4, rfl, ho4, ⟨g4, rfl⟩, hb4⟩
  have HO4 := Lib.hid (ho4.mono HB3.out.size)
  have HB4 := Lib.hid (HB3.out.trans (hb4.mono HB3.out.size))
  clear ho4 hb4
  go_wp2
  go_ret2
  exact ⟨_, rfl, HO4.out, ⟨_, rfl⟩, HB4.out⟩
set_option maxHeartbeats 2000000 in
theorem vsize_bad (u : ByteArray) (s k : Int) (v : ByteArray) (w : World) (h : keyRight u s k = false) :
    Calls Tryd.prog 22 #[.agg #[.string u, .int .i64 s, .int .i64 k], .string v] w fun e w' => e = .returned (.int .i64 0) ∧ Below w.heap.size w w' := by
  obtain ⟨q0, q1, q2⟩ := cells3n (w := w) (a := .string u) (b := .int .i64 s) (c := .int .i64 k) (T := 27)
  go_enter Tryd.func22, Tryd.ntmps22
  go_wp2_with fail; (with_reducible refine (record_bad u s k v _ h).mono ?_); rintro e w1 ⟨rfl, hb1⟩
  go_wp2
  go_ret
  exact ⟨rfl, ((Below.refl _ w).alloc (Nat.le_refl _) _).trans (hb1.mono (by simp))⟩
set_option maxHeartbeats 2000000 in
theorem vsize_ok (u : ByteArray) (s k : Int) (v : ByteArray) (w : World) (h : keyRight u s k = true) (hv : v.size ≤ 1000000) :
    Calls Tryd.prog 22 #[.agg #[.string u, .int .i64 s, .int .i64 k], .string v] w fun e w' => e = .returned (.int .i64 ((frB (recB u s k v)).length : Nat)) ∧ Below w.heap.size w w' := by
  obtain ⟨q0, q1, q2⟩ := cells3n (w := w) (a := .string u) (b := .int .i64 s) (c := .int .i64 k) (T := 27)
  have hrl := recB_len h v hv
  have HR := Lib.hid (record_ok u s k v (w.alloc (.cells #[.string u, .int .i64 s, .int .i64 k] 27)) h hv)
  have HS : Hid (∀ W : World, Calls Tryd.prog 23 #[.int .i64 ((recB u s k v).length : Nat)] W fun e w' => e = .returned (.int .i64 ((frB (recB u s k v)).length : Nat)) ∧ W = w') := Lib.hid fun W => by
    have := rsize_any (recB u s k v).length W (by omega)
    rw [← frB_len] at this
    exact this
  clear h
  generalize (frB (recB u s k v)).length = fn at *
  generalize recB u s k v = R at *
  go_enter Tryd.func22, Tryd.ntmps22
  go_wp2_with fail; (with_reducible refine (HR.out).mono ?_); rintro e w1 ⟨v1, rfl, ho1, ⟨g, rfl⟩, hb1⟩
  clear ho1
  go_wp2_with fail; (with_reducible refine (HS.out _).mono ?_); rintro e w2 ⟨rfl, hw2⟩
  subst hw2
  go_wp2
  go_ret
  exact ⟨rfl, ((Below.refl _ w).alloc (Nat.le_refl _) _).trans (hb1.mono (by simp))⟩
end Go.Proofs.YtmhklmecpbdljaaDoor
/- Chapter 14: a value's record is read. -/

namespace Go.Proofs.YtmhklmecpbdljaaDoor
open Go.RowKit
set_option linter.unusedVariables false
set_option linter.unusedSimpArgs false

theorem rdText_eq {l t r : List UInt8} (h : rdText l = some (t, r)) : l = txtB t ++ r := by
  obtain ⟨m, q, h1, h2, h3, h5⟩ := rdText_some h
  obtain ⟨h6, h7, _⟩ := rdNum_is 9 true _ m q h1
  have hum : t.length = m := by rw [h3, List.length_take]; omega
  unfold txtB
  rw [h6, hum, h3, h5, List.append_assoc, List.take_append_drop]
theorem rdText_of_rec {u : ByteArray} {s k : Int} {v : ByteArray} (h : keyRight u s k = true) (hv : v.size ≤ 1000000000000) : rdText (recB u s k v) = some (keyBytes u.data.toList s k, txtB v.data.toList) ∧ rdText (txtB v.data.toList) = some (v.data.toList, []) := by
  refine ⟨rdText_num _ _ (by have := (right_size h).2; omega), ?_⟩
  have := rdText_num v.data.toList [] (by rw [vdataLen]; omega)
  rw [List.append_nil] at this
  exact this
theorem recB_ge (u : ByteArray) (s k : Int) (v : ByteArray) : v.size ≤ (recB u s k v).length := by
  unfold recB txtB; simp only [List.length_append, vdataLen]; omega
/-- Text of any reader -/
def TextIs (l : List UInt8) (bad : Bool) (t l' : List UInt8) (bad' : Bool) : Prop := (bad' = false ∧ bad = false ∧ rdText l = some (t, l')) ∨ (bad' = true ∧ (bad = true ∨ rdText l = none) ∧ t = [])
def TextAny (w : World) (p : Nat) (go : Option Nat) (l : List UInt8) (bad : Bool) (e : Ending) (w' : World) : Prop :=
  ∃ t ao c l' bad', e = .returned (.slice ao t.length c) ∧ RB w' (.slice ao t.length c) t ∧ RD w' p go l' bad' ∧ w.grownBy w' (some p) ∧ (∀ k, (Value.slice ao t.length c).ownBlock = some k → go = some k) ∧
    TextIs l bad t l' bad'
theorem text_any {w : World} {p : Nat} {go : Option Nat} {l : List UInt8} {bad : Bool} (h : RD w p go l bad) :
    Calls Tryd.prog 61 #[.pointer (some ⟨p, 0, none⟩)] w (TextAny w p go l bad) := by
  cases bad with
  | true =>
    refine (rtext_bad h).mono ?_
    rintro e w' ⟨rfl, h1, h2⟩
    exact ⟨[], none, 0, _, true, rfl, RB.nil _ _ _, h1, h2, fun k hk => by simp [Value.ownBlock] at hk, .inr ⟨rfl, .inl rfl, rfl⟩⟩
  | false =>
    cases e : rdText l with
    | none =>
      refine (rtext_no h e).mono ?_
      rintro e' w' ⟨rfl, ⟨l', h1⟩, h2⟩
      exact ⟨[], none, 0, l', true, rfl, RB.nil _ _ _, h1, h2, fun k hk => by simp [Value.ownBlock] at hk, .inr ⟨rfl, .inr e, rfl⟩⟩
    | some y =>
      obtain ⟨t, r⟩ := y
      refine (rtext_ok h e).mono ?_
      rintro e' w' ⟨ao, c, rfl, h1, h2, h3, h4⟩
      exact ⟨t, ao, c, r, false, rfl, h1, h2, h3, h4, .inl ⟨rfl, rfl, e⟩⟩
def VRead (w : World) (b : List UInt8) (e : Ending) (w' : World) : Prop :=
  Below w.heap.size w w' ∧ ∃ (u : ByteArray) (s k : Int) (v : ByteArray) (ok : Bool), e = .returned (.tuple #[.agg #[.string u, .int .i64 s, .int .i64 k], .string v, .bool ok]) ∧
    ((ok = true ∧ keyRight u s k = true ∧ b = recB u s k v) ∨ (ok = false ∧ ∀ u s k v, keyRight u s k = true → b ≠ recB u s k v))
theorem vread_yes {b t1 l1 t2 l2 : List UInt8} {bad1 bad2 : Bool} {u : ByteArray} {s k : Int} (h1 : TextIs b false t1 l1 bad1) (h2 : TextIs l1 bad1 t2 l2 bad2)
    (hk : keyBytes u.data.toList s k = t1) (hb : bad2 = false) (hl : l2 = []) : b = recB u s k ⟨t2.toArray⟩ := by
  rcases h2 with ⟨_, h3, h4⟩ | ⟨h3, _⟩
  · rcases h1 with ⟨_, _, h6⟩ | ⟨h5, _⟩
    · rw [rdText_eq h6, rdText_eq h4, ← hk, hl, List.append_nil]; rfl
    · rw [h3] at h5; cases h5
  · rw [hb] at h3; cases h3
theorem vread_no {b t1 l1 t2 l2 : List UInt8} {bad1 bad2 : Bool} (hbl : b.length ≤ 1000000000000) (h1 : TextIs b false t1 l1 bad1) (h2 : TextIs l1 bad1 t2 l2 bad2)
    (hn : (∀ (u : ByteArray) (s k : Int), keyRight u s k = true → keyBytes u.data.toList s k ≠ t1) ∨ ¬ (bad2 = false ∧ l2 = [])) : ∀ u s k v, keyRight u s k = true → b ≠ recB u s k v := by
  intro u s k v hr e
  have hv := recB_ge u s k v
  rw [← e] at hv
  obtain ⟨e1, e2⟩ := rdText_of_rec (v := v) hr (by omega)
  rw [← e] at e1
  rcases h1 with ⟨hb1, _, h6⟩ | ⟨_, h5, _⟩
  · rw [e1, Option.some.injEq, Prod.mk.injEq] at h6
    obtain ⟨rfl, rfl⟩ := h6
    rcases h2 with ⟨hb2, _, h4⟩ | ⟨_, h4, _⟩
    · rw [e2, Option.some.injEq, Prod.mk.injEq] at h4
      obtain ⟨rfl, rfl⟩ := h4
      rcases hn with hn | hn
      · exact hn u s k hr rfl
      · exact hn ⟨hb2, rfl⟩
    · rcases h4 with h4 | h4
      · rw [hb1] at h4; cases h4
      · rw [e2] at h4; cases h4
  · rcases h5 with h5 | h5
    · cases h5
    · rw [e1] at h5; cases h5
theorem vset3 {w : World} {t : Nat} {a b c : Value} {e : TypeId} (h : w.heap[t]? = some (.cells #[a, b, c] e (0, 0))) (u s k : Value) : (((w.setCell ⟨t, 0, none⟩ u).setCell ⟨t, 1, none⟩ s).setCell ⟨t, 2, none⟩ k).heap[t]? = some (.cells #[u, s, k] e (0, 0)) := by
  simp only [World.setCell, Array.getElem?_modify, if_true, h]; rfl
theorem vset3_chg (w : World) (t : Nat) (u s k : Value) : Chg (fun j => j = t) w (((w.setCell ⟨t, 0, none⟩ u).setCell ⟨t, 1, none⟩ s).setCell ⟨t, 2, none⟩ k) := ((Chg.set w t 0 u).trans (Chg.set _ t 1 s)).trans (Chg.set _ t 2 k)
theorem cell_chgv {F : Nat → Prop} {w w' : World} {b j : Nat} {v : Value} (h : w.cell? ⟨b, j, none⟩ = some v) (hc : Chg F w w') (hn : ¬ F b) : w'.cell? ⟨b, j, none⟩ = some v := by
  have hb := World.block_lt_of_cell? w _ h
  unfold World.cell? at h ⊢
  simp only [hc.block b hb hn]
  exact h
theorem cell3v {w : World} {k : Nat} {a b c : Value} {T : TypeId} (h : w.heap[k]? = some (.cells #[a, b, c] T (0, 0))) : w.cell? ⟨k, 0, none⟩ = some a ∧ w.cell? ⟨k, 1, none⟩ = some b ∧ w.cell? ⟨k, 2, none⟩ = some c ∧ (∀ j, w.frozen? ⟨k, j, none⟩ = false) := by
  refine ⟨?_, ?_, ?_, fun j => ?_⟩
  · rw [cell_of_row _ _ _ _ _ _ h]; rfl
  · rw [cell_of_row _ _ _ _ _ _ h]; rfl
  · rw [cell_of_row _ _ _ _ _ _ h]; rfl
  · simp [World.frozen?, h]
set_option maxRecDepth 100000 in
set_option maxHeartbeats 8000000 in
theorem vread_any {w : World} {ao : Option Addr} {c : Nat} {b : List UInt8} (h : RB w (.slice ao b.length c) b) (hl : b.length ≤ 100000000000) :
    Calls Tryd.prog 39 #[.slice ao b.length c] w (VRead w b) := by
  have hb0 : Below w.heap.size w (w.alloc (.cells #[.string ⟨#[]⟩, .int .i64 0, .int .i64 0] 27)) := (Below.refl _ w).alloc (Nat.le_refl _) _
  have HB0 := Lib.hid hb0
  have HN := Lib.hid (newreader_any (h.below hb0) (by omega))
  have hz0 := heap_alloc_new w (.cells #[.string ⟨#[]⟩, .int .i64 0, .int .i64 0] 27)
  have HZ0 := Lib.hid hz0
  clear hb0 h hz0
  go_enter Tryd.func39, Tryd.ntmps39
  go_wp2_with fail; (with_reducible refine (HN.out).mono ?_); rintro e w1 ⟨p, go, rfl, hp, hgo, hrd, hb1⟩
  have hp' : w.heap.size + 1 ≤ p := by simpa using hp
  have hb1' : Below w.heap.size w w1 := HB0.out.trans (hb1.mono (by simp))
  have hq1 := (hb1.block w.heap.size (by simp)).trans HZ0.out
  have HB1 := Lib.hid hb1'
  have HQ1 := Lib.hid hq1
  have HRD1 := Lib.hid hrd
  have HGo : Hid (∀ k, go = some k → k ≠ w.heap.size) := Lib.hid fun k hk => by have := hgo k hk; simp at this; omega
  clear hb1 hb1' hq1 hrd hp hgo HN HZ0 HB0
  go_wp2_with fail; (with_reducible refine (text_any HRD1.out).mono ?_); rintro e w2 ⟨t1, a1, c1, l1, b1, rfl, hr1, hrd2, hg2, ho1, hc1⟩
  have HC1 := Lib.hid hc1
  have HR1 := Lib.hid hr1
  have HB2 := Lib.hid (grew HB1.out hg2 (by omega) HB1.out.size)
  have HQ2 := Lib.hid ((hg2.block w.heap.size (blk_lt HQ1.out) (by simp; omega)).trans HQ1.out)
  have HRD2 := Lib.hid hrd2
  have HO1 := Lib.hid ho1
  have ht1 : t1.length ≤ b.length := by
    rcases hc1 with ⟨_, _, h⟩ | ⟨_, _, h⟩
    · have := rdText_len h; omega
    · rw [h]; exact Nat.zero_le _
  clear hc1 hr1 hg2 hrd2 ho1 HRD1
  go_wp2_with fail; (with_reducible refine (text_any HRD2.out).mono ?_); rintro e w3 ⟨t2, a2, c2, l2, b2, rfl, hr2, hrd3, hg3, ho2, hc2⟩
  have hgp : ∀ k, go = some k → k ≠ p := by
    obtain ⟨_, _, _, _, _, h⟩ := HRD2.out
    exact fun k hk => (h k hk).2
  have HC2 := Lib.hid hc2
  have HO2 : Hid (∀ k, (Value.slice a2 t2.length c2).ownBlock = some k → k ≠ w.heap.size) := Lib.hid fun k hk => HGo.out k (ho2 k hk)
  have HR13 := Lib.hid (HR1.out.chg (Chg.of_grown hg3) fun _ k hk e => hgp k (HO1.out k hk) (by simpa using e.symm))
  have HB3 := Lib.hid (grew HB2.out hg3 (by omega) HB2.out.size)
  have HQ3 := Lib.hid ((hg3.block w.heap.size (blk_lt HQ2.out) (by simp; omega)).trans HQ2.out)
  have HR2 := Lib.hid hr2
  have HRD3 := Lib.hid hrd3
  clear hc2 hr2 hrd3 hg3 ho2 HR1 HRD2 hgp HO1 HQ1 HB1 HB2
  have HPa := Lib.hid (parse2 HR13.out (by omega))
  go_wp2_with fail; (with_reducible refine (HPa.out).mono ?_); rintro e w4 ⟨hb4, hpc⟩
  have HB4 := Lib.hid (HB3.out.trans (hb4.mono HB3.out.size))
  have HQ4 := Lib.hid ((hb4.block w.heap.size (blk_lt HQ3.out)).trans HQ3.out)
  have HR24 := Lib.hid (HR2.out.below hb4)
  have HRD4 := Lib.hid (HRD3.out.below hb4)
  clear hb4 HPa HR13 HR2 HRD3 HQ3 HB3 HQ2
  have hpc2 : ∃ (u : ByteArray) (s k er : Int), e = .returned (.tuple #[.agg #[.string u, .int .i64 s, .int .i64 k], .int .i64 er]) ∧ ((er = 0 ∧ keyRight u s k = true ∧ keyBytes u.data.toList s k = t1) ∨ (er = 30 ∧ ∀ (u : ByteArray) (s k : Int), keyRight u s k = true → keyBytes u.data.toList s k ≠ t1)) := by
    rcases hpc with ⟨u, s, k, hkr, hkb, rfl⟩ | ⟨hno, rfl⟩
    · exact ⟨u, s, k, 0, rfl, .inl ⟨rfl, hkr, hkb⟩⟩
    · exact ⟨⟨#[]⟩, 0, 0, 30, rfl, .inr ⟨rfl, hno⟩⟩
  obtain ⟨u, s, k, er, rfl, hpc3⟩ := hpc2
  clear hpc
  rcases hpc3 with ⟨rfl, hkr, hkb⟩ | ⟨rfl, hno⟩
  · go_upto_region 4 with (fail)
    have hba : Below w4.heap.size w4 (w4.alloc (.cells #[.string u, .int .i64 s, .int .i64 k] 27)) := (Below.refl _ w4).alloc (Nat.le_refl _) _
    obtain ⟨q0, q1, q2⟩ := cells3n (w := w4) (a := .string u) (b := .int .i64 s) (c := .int .i64 k) (T := 27)
    have hz5 := (hba.block w.heap.size (blk_lt HQ4.out)).trans HQ4.out
    have hr5 := HR24.out.below hba
    have HRD5 := Lib.hid (HRD4.out.below hba)
    have HB5 := Lib.hid (HB4.out.trans (hba.mono HB4.out.size))
    have HQ4' := HQ4
    clear hba HQ4 HR24 HRD4 HB4
    generalize w4.alloc (.cells #[.string u, .int .i64 s, .int .i64 k] 27) = w5 at *
    generalize hTq : w4.heap.size = tq at *
    have hstr : ∀ W, RB W (.slice a2 t2.length c2) t2 → (convert 23 9 (.slice a2 t2.length c2)).run Tryd.prog W = .ok (.string ⟨t2.toArray⟩) W := fun W h => h.string
    have hWt : w.heap.size < tq := by have := blk_lt HQ4'.out; omega
    clear hTq HQ4'
    obtain ⟨z0, z1, z2, zf⟩ := cell3v hz5
    have f0 := zf 0
    have f1 := zf 1
    have f2 := zf 2
    have hcs := vset3_chg w5.drew w.heap.size (.string u) (.int .i64 s) (.int .i64 k)
    have hSn : (((w5.drew.setCell ⟨w.heap.size, 0, none⟩ (.string u)).setCell ⟨w.heap.size, 1, none⟩ (.int .i64 s)).setCell ⟨w.heap.size, 2, none⟩ (.int .i64 k)).cell? ⟨tq, 0, none⟩ = some (.string u) ∧ (((w5.drew.setCell ⟨w.heap.size, 0, none⟩ (.string u)).setCell ⟨w.heap.size, 1, none⟩ (.int .i64 s)).setCell ⟨w.heap.size, 2, none⟩ (.int .i64 k)).cell? ⟨tq, 1, none⟩ = some (.int .i64 s) ∧ (((w5.drew.setCell ⟨w.heap.size, 0, none⟩ (.string u)).setCell ⟨w.heap.size, 1, none⟩ (.int .i64 s)).setCell ⟨w.heap.size, 2, none⟩ (.int .i64 k)).cell? ⟨tq, 2, none⟩ = some (.int .i64 k) ∧ RB (((w5.drew.setCell ⟨w.heap.size, 0, none⟩ (.string u)).setCell ⟨w.heap.size, 1, none⟩ (.int .i64 s)).setCell ⟨w.heap.size, 2, none⟩ (.int .i64 k)) (.slice a2 t2.length c2) t2 :=
      ⟨cell_chgv (w := w5.drew) (F := fun j => j = w.heap.size) q0 hcs (show ¬ tq = w.heap.size by omega), cell_chgv (w := w5.drew) (F := fun j => j = w.heap.size) q1 hcs (show ¬ tq = w.heap.size by omega), cell_chgv (w := w5.drew) (F := fun j => j = w.heap.size) q2 hcs (show ¬ tq = w.heap.size by omega), (hr5.below (Below.refl _ w5).drew).chg hcs fun _ k hk e => HO2.out k hk e⟩
    have HSn := Lib.hid hSn
    have hres := vset3 (w := w5.drew) hz5 (.string u) (.int .i64 s) (.int .i64 k)
    have HRes := Lib.hid hres
    have HBz : Hid (Below w.heap.size w (((w5.drew.setCell ⟨w.heap.size, 0, none⟩ (.string u)).setCell ⟨w.heap.size, 1, none⟩ (.int .i64 s)).setCell ⟨w.heap.size, 2, none⟩ (.int .i64 k))) := Lib.hid (HB5.out.drew.trans (hcs.below (fun k e => by omega) (by have := HB5.out.size; exact this)))
    clear hcs hSn hres zf hz5
    by_cases hdn : b2 = false ∧ l2 = []
    · have HDn : Hid (Calls Tryd.prog 48 #[.pointer (some ⟨p, 0, none⟩)] w5.drew fun e w' => e = .returned (.int .i64 0) ∧ w5.drew = w') := Lib.hid (done_any (HRD5.out.below (Below.refl _ w5).drew) _ (by rw [if_pos hdn]))
      have HDH := Lib.hid hdn
      clear hdn
      refine wp_region_held_drew (S := fun w' => w'.cell? ⟨tq, 0, none⟩ = some (.string u) ∧ w'.cell? ⟨tq, 1, none⟩ = some (.int .i64 s) ∧ w'.cell? ⟨tq, 2, none⟩ = some (.int .i64 k) ∧ RB w' (.slice a2 t2.length c2) t2) (by kernel_rfl) ⟨q0, q1, q2, hr5⟩ (fun hHeld => ?_)
      refine wpAnyH_take (i := 0) (oi := ⟨some 21, _, _, _, _, _⟩) (v := ?_) rfl (by kernel_rfl) (by kernel_rfl) (by kernel_rfl) (fun _ _ _ h => h) (Or.inl ⟨by rfl, ?_⟩) (by assumption) ?_
      rotate_left
      · intro w hSw
        (try dsimp only at hSw)
        go_simp
        (try with_reducible rfl)
      (try simp only [Act.put, List.setIfInBounds_toArray, List.set_cons_zero, List.set_cons_succ])
      refine wpAnyH_take (i := 1) (oi := ⟨some 22, _, _, _, _, _⟩) (v := ?_) rfl (by kernel_rfl) (by kernel_rfl) (by kernel_rfl) (fun _ _ _ h => h) (Or.inl ⟨by rfl, ?_⟩) (by assumption) ?_
      rotate_left
      · intro w hSw
        (try dsimp only at hSw)
        go_simp
        (try with_reducible rfl)
      (try simp only [Act.put, List.setIfInBounds_toArray, List.set_cons_zero, List.set_cons_succ])
      refine wpAnyH_take (i := 2) (oi := ⟨some 23, _, _, _, _, _⟩) (v := ?_) rfl (by kernel_rfl) (by kernel_rfl) (by kernel_rfl) (fun _ _ _ h => h) (Or.inl ⟨by rfl, ?_⟩) (by assumption) ?_
      rotate_left
      · intro w hSw
        (try dsimp only at hSw)
        have hst := hstr _ hSw.2.2.2
        go_simp
        (try with_reducible rfl)
      (try simp only [Act.put, List.setIfInBounds_toArray, List.set_cons_zero, List.set_cons_succ])
      refine wpAnyH_take (i := 3) (oi := ⟨some 24, _, _, _, _, _⟩) (v := ?_) rfl (by kernel_rfl) (by kernel_rfl) (by kernel_rfl) (fun _ _ _ h => h) (Or.inl ⟨by rfl, ?_⟩) (by assumption) ?_
      rotate_left
      · intro w hSw
        (try dsimp only at hSw)
        go_simp
        (try with_reducible rfl)
      (try simp only [Act.put, List.setIfInBounds_toArray, List.set_cons_zero, List.set_cons_succ])
      refine wpAnyH_take (i := 4) (oi := ⟨some 25, _, _, _, _, _⟩) (v := ?_) rfl (by kernel_rfl) (by kernel_rfl) (by kernel_rfl) (fun _ _ _ h => h) (Or.inl ⟨by rfl, ?_⟩) (by assumption) ?_
      rotate_left
      · intro w hSw
        (try dsimp only at hSw)
        go_simp
        (try with_reducible rfl)
      (try simp only [Act.put, List.setIfInBounds_toArray, List.set_cons_zero, List.set_cons_succ])
      refine wpAnyH_take (i := 5) (oi := ⟨some 26, _, _, _, _, _⟩) (v := ?_) rfl (by kernel_rfl) (by kernel_rfl) (by kernel_rfl) (fun _ _ _ h => h) (Or.inl ⟨by rfl, ?_⟩) (by assumption) ?_
      rotate_left
      · intro w hSw
        (try dsimp only at hSw)
        go_simp
        (try with_reducible rfl)
      (try simp only [Act.put, List.setIfInBounds_toArray, List.set_cons_zero, List.set_cons_succ])
      refine wpAnyH_take (i := 6) (oi := ⟨some 27, _, _, _, _, _⟩) (v := ?_) rfl (by kernel_rfl) (by kernel_rfl) (by kernel_rfl) (fun _ _ _ h => h) (Or.inl ⟨by rfl, ?_⟩) (by assumption) ?_
      rotate_left
      · intro w hSw
        (try dsimp only at hSw)
        go_simp
        (try with_reducible rfl)
      (try simp only [Act.put, List.setIfInBounds_toArray, List.set_cons_zero, List.set_cons_succ])
      refine wpAnyH_ready (rs := [7]) (by kernel_rfl) (by simp) ?_
      refine AllReadyH.cons (o := ⟨some 28, _, _, _, _, _⟩) rfl (fun K hK => ?_) ?_
      · go_simp
        (with_reducible refine (HDn.out).mono ?_)
        rintro e w6 ⟨rfl, rfl⟩
        go_wp2_with fail
        refine hK.out _ _ ?_ (fun hHeld => ?_)
        · exact ⟨q0, q1, q2, hr5⟩
        clear hK K
        (try simp only [Act.put, List.setIfInBounds_toArray, List.set_cons_zero, List.set_cons_succ])
        refine wpAnyH_take (i := 8) (oi := ⟨some 29, _, _, _, _, _⟩) (v := ?_) rfl (by kernel_rfl) (by kernel_rfl) (by kernel_rfl) (fun _ _ _ h => h) (Or.inl ⟨by rfl, ?_⟩) (by assumption) ?_
        rotate_left
        · intro w hSw
          (try dsimp only at hSw)
          go_simp
          (try with_reducible rfl)
        (try simp only [Act.put, List.setIfInBounds_toArray, List.set_cons_zero, List.set_cons_succ])
        refine wpAnyH_take (i := 9) (oi := ⟨some 30, _, _, _, _, _⟩) (v := ?_) rfl (by kernel_rfl) (by kernel_rfl) (by kernel_rfl) (fun _ _ _ h => h) (Or.inl ⟨by rfl, ?_⟩) (by assumption) ?_
        rotate_left
        · intro w hSw
          (try dsimp only at hSw)
          go_simp
          (try with_reducible rfl)
        (try simp only [Act.put, List.setIfInBounds_toArray, List.set_cons_zero, List.set_cons_succ])
        refine wpAnyH_ready (rs := [10]) (by kernel_rfl) (by simp) ?_
        refine AllReadyH.cons (o := ⟨none, _, _, _, _, _⟩) rfl (fun K hK => ?_) ?_
        · go_simp
          refine hK.out _ _ ?_ (fun hHeld => ?_)
          · exact HSn.out
          clear hK K
          (try simp only [Act.put, List.setIfInBounds_toArray, List.set_cons_zero, List.set_cons_succ])
          refine wpAnyH_take (i := 11) (oi := ⟨some 3, _, _, _, _, _⟩) (v := ?_) rfl (by kernel_rfl) (by kernel_rfl) (by kernel_rfl) (fun _ _ _ h => h) (Or.inl ⟨by rfl, ?_⟩) (by assumption) ?_
          rotate_left
          · intro w hSw
            (try dsimp only at hSw)
            go_simp
            (try with_reducible rfl)
          (try simp only [Act.put, List.setIfInBounds_toArray, List.set_cons_zero, List.set_cons_succ])
          refine wpAnyH_take (i := 12) (oi := ⟨some 4, _, _, _, _, _⟩) (v := ?_) rfl (by kernel_rfl) (by kernel_rfl) (by kernel_rfl) (fun _ _ _ h => h) (Or.inl ⟨by rfl, ?_⟩) (by assumption) ?_
          rotate_left
          · intro w hSw
            (try dsimp only at hSw)
            go_simp
            (try with_reducible rfl)
          (try simp only [Act.put, List.setIfInBounds_toArray, List.set_cons_zero, List.set_cons_succ])
          refine wpAnyH_done (by kernel_rfl) ?_ _
          have hz : (((w5.setCell ⟨w.heap.size, 0, none⟩ (.string u)).setCell ⟨w.heap.size, 1, none⟩ (.int .i64 s)).setCell ⟨w.heap.size, 2, none⟩ (.int .i64 k)).drew.heap[w.heap.size]? = some (.cells #[.string u, .int .i64 s, .int .i64 k] 27 (0, 0)) ∧ Below w.heap.size w (((w5.setCell ⟨w.heap.size, 0, none⟩ (.string u)).setCell ⟨w.heap.size, 1, none⟩ (.int .i64 s)).setCell ⟨w.heap.size, 2, none⟩ (.int .i64 k)).drew := ⟨HRes.out, HBz.out⟩
          generalize (((w5.setCell ⟨w.heap.size, 0, none⟩ (.string u)).setCell ⟨w.heap.size, 1, none⟩ (.int .i64 s)).setCell ⟨w.heap.size, 2, none⟩ (.int .i64 k)).drew = wz at *
          obtain ⟨r0, r1, r2, _⟩ := cell3v hz.1
          go_wp2
          refine bodyPost_ret (v := .tuple #[.agg #[.string u, .int .i64 s, .int .i64 k], .string ⟨t2.toArray⟩, .bool true]) (by simp [results, Tryd.results39, go_sem, r0, r1, r2]) rfl ?_
          exact ⟨hz.2, u, s, k, _, _, rfl, .inl ⟨rfl, hkr, vread_yes HC1.out HC2.out hkb HDH.out.1 HDH.out.2⟩⟩
        exact AllReadyH.nil
      exact AllReadyH.nil
    · have HDn : Hid (Calls Tryd.prog 48 #[.pointer (some ⟨p, 0, none⟩)] w5.drew fun e w' => e = .returned (.int .i64 20) ∧ w5.drew = w') := Lib.hid (done_any (HRD5.out.below (Below.refl _ w5).drew) _ (by rw [if_neg hdn]))
      have HDH := Lib.hid hdn
      clear hdn
      refine wp_region_held_drew (S := fun w' => w'.cell? ⟨tq, 0, none⟩ = some (.string u) ∧ w'.cell? ⟨tq, 1, none⟩ = some (.int .i64 s) ∧ w'.cell? ⟨tq, 2, none⟩ = some (.int .i64 k) ∧ RB w' (.slice a2 t2.length c2) t2) (by kernel_rfl) ⟨q0, q1, q2, hr5⟩ (fun hHeld => ?_)
      refine wpAnyH_take (i := 0) (oi := ⟨some 21, _, _, _, _, _⟩) (v := ?_) rfl (by kernel_rfl) (by kernel_rfl) (by kernel_rfl) (fun _ _ _ h => h) (Or.inl ⟨by rfl, ?_⟩) (by assumption) ?_
      rotate_left
      · intro w hSw
        (try dsimp only at hSw)
        go_simp
        (try with_reducible rfl)
      (try simp only [Act.put, List.setIfInBounds_toArray, List.set_cons_zero, List.set_cons_succ])
      refine wpAnyH_take (i := 1) (oi := ⟨some 22, _, _, _, _, _⟩) (v := ?_) rfl (by kernel_rfl) (by kernel_rfl) (by kernel_rfl) (fun _ _ _ h => h) (Or.inl ⟨by rfl, ?_⟩) (by assumption) ?_
      rotate_left
      · intro w hSw
        (try dsimp only at hSw)
        go_simp
        (try with_reducible rfl)
      (try simp only [Act.put, List.setIfInBounds_toArray, List.set_cons_zero, List.set_cons_succ])
      refine wpAnyH_take (i := 2) (oi := ⟨some 23, _, _, _, _, _⟩) (v := ?_) rfl (by kernel_rfl) (by kernel_rfl) (by kernel_rfl) (fun _ _ _ h => h) (Or.inl ⟨by rfl, ?_⟩) (by assumption) ?_
      rotate_left
      · intro w hSw
        (try dsimp only at hSw)
        have hst := hstr _ hSw.2.2.2
        go_simp
        (try with_reducible rfl)
      (try simp only [Act.put, List.setIfInBounds_toArray, List.set_cons_zero, List.set_cons_succ])
      refine wpAnyH_take (i := 3) (oi := ⟨some 24, _, _, _, _, _⟩) (v := ?_) rfl (by kernel_rfl) (by kernel_rfl) (by kernel_rfl) (fun _ _ _ h => h) (Or.inl ⟨by rfl, ?_⟩) (by assumption) ?_
      rotate_left
      · intro w hSw
        (try dsimp only at hSw)
        go_simp
        (try with_reducible rfl)
      (try simp only [Act.put, List.setIfInBounds_toArray, List.set_cons_zero, List.set_cons_succ])
      refine wpAnyH_take (i := 4) (oi := ⟨some 25, _, _, _, _, _⟩) (v := ?_) rfl (by kernel_rfl) (by kernel_rfl) (by kernel_rfl) (fun _ _ _ h => h) (Or.inl ⟨by rfl, ?_⟩) (by assumption) ?_
      rotate_left
      · intro w hSw
        (try dsimp only at hSw)
        go_simp
        (try with_reducible rfl)
      (try simp only [Act.put, List.setIfInBounds_toArray, List.set_cons_zero, List.set_cons_succ])
      refine wpAnyH_take (i := 5) (oi := ⟨some 26, _, _, _, _, _⟩) (v := ?_) rfl (by kernel_rfl) (by kernel_rfl) (by kernel_rfl) (fun _ _ _ h => h) (Or.inl ⟨by rfl, ?_⟩) (by assumption) ?_
      rotate_left
      · intro w hSw
        (try dsimp only at hSw)
        go_simp
        (try with_reducible rfl)
      (try simp only [Act.put, List.setIfInBounds_toArray, List.set_cons_zero, List.set_cons_succ])
      refine wpAnyH_take (i := 6) (oi := ⟨some 27, _, _, _, _, _⟩) (v := ?_) rfl (by kernel_rfl) (by kernel_rfl) (by kernel_rfl) (fun _ _ _ h => h) (Or.inl ⟨by rfl, ?_⟩) (by assumption) ?_
      rotate_left
      · intro w hSw
        (try dsimp only at hSw)
        go_simp
        (try with_reducible rfl)
      (try simp only [Act.put, List.setIfInBounds_toArray, List.set_cons_zero, List.set_cons_succ])
      refine wpAnyH_ready (rs := [7]) (by kernel_rfl) (by simp) ?_
      refine AllReadyH.cons (o := ⟨some 28, _, _, _, _, _⟩) rfl (fun K hK => ?_) ?_
      · go_simp
        (with_reducible refine (HDn.out).mono ?_)
        rintro e w6 ⟨rfl, rfl⟩
        go_wp2_with fail
        refine hK.out _ _ ?_ (fun hHeld => ?_)
        · exact ⟨q0, q1, q2, hr5⟩
        clear hK K
        (try simp only [Act.put, List.setIfInBounds_toArray, List.set_cons_zero, List.set_cons_succ])
        refine wpAnyH_take (i := 8) (oi := ⟨some 29, _, _, _, _, _⟩) (v := ?_) rfl (by kernel_rfl) (by kernel_rfl) (by kernel_rfl) (fun _ _ _ h => h) (Or.inl ⟨by rfl, ?_⟩) (by assumption) ?_
        rotate_left
        · intro w hSw
          (try dsimp only at hSw)
          go_simp
          (try with_reducible rfl)
        (try simp only [Act.put, List.setIfInBounds_toArray, List.set_cons_zero, List.set_cons_succ])
        refine wpAnyH_take (i := 9) (oi := ⟨some 30, _, _, _, _, _⟩) (v := ?_) rfl (by kernel_rfl) (by kernel_rfl) (by kernel_rfl) (fun _ _ _ h => h) (Or.inl ⟨by rfl, ?_⟩) (by assumption) ?_
        rotate_left
        · intro w hSw
          (try dsimp only at hSw)
          go_simp
          (try with_reducible rfl)
        (try simp only [Act.put, List.setIfInBounds_toArray, List.set_cons_zero, List.set_cons_succ])
        refine wpAnyH_ready (rs := [10]) (by kernel_rfl) (by simp) ?_
        refine AllReadyH.cons (o := ⟨none, _, _, _, _, _⟩) rfl (fun K hK => ?_) ?_
        · go_simp
          refine hK.out _ _ ?_ (fun hHeld => ?_)
          · exact HSn.out
          clear hK K
          (try simp only [Act.put, List.setIfInBounds_toArray, List.set_cons_zero, List.set_cons_succ])
          refine wpAnyH_take (i := 11) (oi := ⟨some 3, _, _, _, _, _⟩) (v := ?_) rfl (by kernel_rfl) (by kernel_rfl) (by kernel_rfl) (fun _ _ _ h => h) (Or.inl ⟨by rfl, ?_⟩) (by assumption) ?_
          rotate_left
          · intro w hSw
            (try dsimp only at hSw)
            go_simp
            (try with_reducible rfl)
          (try simp only [Act.put, List.setIfInBounds_toArray, List.set_cons_zero, List.set_cons_succ])
          refine wpAnyH_take (i := 12) (oi := ⟨some 4, _, _, _, _, _⟩) (v := ?_) rfl (by kernel_rfl) (by kernel_rfl) (by kernel_rfl) (fun _ _ _ h => h) (Or.inl ⟨by rfl, ?_⟩) (by assumption) ?_
          rotate_left
          · intro w hSw
            (try dsimp only at hSw)
            go_simp
            (try with_reducible rfl)
          (try simp only [Act.put, List.setIfInBounds_toArray, List.set_cons_zero, List.set_cons_succ])
          refine wpAnyH_done (by kernel_rfl) ?_ _
          have hz : (((w5.setCell ⟨w.heap.size, 0, none⟩ (.string u)).setCell ⟨w.heap.size, 1, none⟩ (.int .i64 s)).setCell ⟨w.heap.size, 2, none⟩ (.int .i64 k)).drew.heap[w.heap.size]? = some (.cells #[.string u, .int .i64 s, .int .i64 k] 27 (0, 0)) ∧ Below w.heap.size w (((w5.setCell ⟨w.heap.size, 0, none⟩ (.string u)).setCell ⟨w.heap.size, 1, none⟩ (.int .i64 s)).setCell ⟨w.heap.size, 2, none⟩ (.int .i64 k)).drew := ⟨HRes.out, HBz.out⟩
          generalize (((w5.setCell ⟨w.heap.size, 0, none⟩ (.string u)).setCell ⟨w.heap.size, 1, none⟩ (.int .i64 s)).setCell ⟨w.heap.size, 2, none⟩ (.int .i64 k)).drew = wz at *
          obtain ⟨r0, r1, r2, _⟩ := cell3v hz.1
          go_wp2
          refine bodyPost_ret (v := .tuple #[.agg #[.string u, .int .i64 s, .int .i64 k], .string ⟨t2.toArray⟩, .bool false]) (by simp [results, Tryd.results39, go_sem, r0, r1, r2]) rfl ?_
          exact ⟨hz.2, u, s, k, _, _, rfl, .inr ⟨rfl, vread_no (by omega) HC1.out HC2.out (.inr HDH.out)⟩⟩
        exact AllReadyH.nil
      exact AllReadyH.nil
  · go_upto_region 4 with (fail)
    have hba : Below w4.heap.size w4 (w4.alloc (.cells #[.string u, .int .i64 s, .int .i64 k] 27)) := (Below.refl _ w4).alloc (Nat.le_refl _) _
    obtain ⟨q0, q1, q2⟩ := cells3n (w := w4) (a := .string u) (b := .int .i64 s) (c := .int .i64 k) (T := 27)
    have hz5 := (hba.block w.heap.size (blk_lt HQ4.out)).trans HQ4.out
    have hr5 := HR24.out.below hba
    have HRD5 := Lib.hid (HRD4.out.below hba)
    have HB5 := Lib.hid (HB4.out.trans (hba.mono HB4.out.size))
    have HQ4' := HQ4
    clear hba HQ4 HR24 HRD4 HB4
    generalize w4.alloc (.cells #[.string u, .int .i64 s, .int .i64 k] 27) = w5 at *
    generalize hTq : w4.heap.size = tq at *
    have hstr : ∀ W, RB W (.slice a2 t2.length c2) t2 → (convert 23 9 (.slice a2 t2.length c2)).run Tryd.prog W = .ok (.string ⟨t2.toArray⟩) W := fun W h => h.string
    have hWt : w.heap.size < tq := by have := blk_lt HQ4'.out; omega
    clear hTq HQ4'
    obtain ⟨z0, z1, z2, zf⟩ := cell3v hz5
    have f0 := zf 0
    have f1 := zf 1
    have f2 := zf 2
    have hcs := vset3_chg w5.drew w.heap.size (.string u) (.int .i64 s) (.int .i64 k)
    have hSn : (((w5.drew.setCell ⟨w.heap.size, 0, none⟩ (.string u)).setCell ⟨w.heap.size, 1, none⟩ (.int .i64 s)).setCell ⟨w.heap.size, 2, none⟩ (.int .i64 k)).cell? ⟨tq, 0, none⟩ = some (.string u) ∧ (((w5.drew.setCell ⟨w.heap.size, 0, none⟩ (.string u)).setCell ⟨w.heap.size, 1, none⟩ (.int .i64 s)).setCell ⟨w.heap.size, 2, none⟩ (.int .i64 k)).cell? ⟨tq, 1, none⟩ = some (.int .i64 s) ∧ (((w5.drew.setCell ⟨w.heap.size, 0, none⟩ (.string u)).setCell ⟨w.heap.size, 1, none⟩ (.int .i64 s)).setCell ⟨w.heap.size, 2, none⟩ (.int .i64 k)).cell? ⟨tq, 2, none⟩ = some (.int .i64 k) ∧ RB (((w5.drew.setCell ⟨w.heap.size, 0, none⟩ (.string u)).setCell ⟨w.heap.size, 1, none⟩ (.int .i64 s)).setCell ⟨w.heap.size, 2, none⟩ (.int .i64 k)) (.slice a2 t2.length c2) t2 :=
      ⟨cell_chgv (w := w5.drew) (F := fun j => j = w.heap.size) q0 hcs (show ¬ tq = w.heap.size by omega), cell_chgv (w := w5.drew) (F := fun j => j = w.heap.size) q1 hcs (show ¬ tq = w.heap.size by omega), cell_chgv (w := w5.drew) (F := fun j => j = w.heap.size) q2 hcs (show ¬ tq = w.heap.size by omega), (hr5.below (Below.refl _ w5).drew).chg hcs fun _ k hk e => HO2.out k hk e⟩
    have HSn := Lib.hid hSn
    have hres := vset3 (w := w5.drew) hz5 (.string u) (.int .i64 s) (.int .i64 k)
    have HRes := Lib.hid hres
    have HBz : Hid (Below w.heap.size w (((w5.drew.setCell ⟨w.heap.size, 0, none⟩ (.string u)).setCell ⟨w.heap.size, 1, none⟩ (.int .i64 s)).setCell ⟨w.heap.size, 2, none⟩ (.int .i64 k))) := Lib.hid (HB5.out.drew.trans (hcs.below (fun k e => by omega) (by have := HB5.out.size; exact this)))
    clear hcs hSn hres zf hz5
    by_cases hdn : b2 = false ∧ l2 = []
    · have HDn : Hid (Calls Tryd.prog 48 #[.pointer (some ⟨p, 0, none⟩)] w5.drew fun e w' => e = .returned (.int .i64 0) ∧ w5.drew = w') := Lib.hid (done_any (HRD5.out.below (Below.refl _ w5).drew) _ (by rw [if_pos hdn]))
      have HDH := Lib.hid hdn
      clear hdn
      refine wp_region_held_drew (S := fun w' => w'.cell? ⟨tq, 0, none⟩ = some (.string u) ∧ w'.cell? ⟨tq, 1, none⟩ = some (.int .i64 s) ∧ w'.cell? ⟨tq, 2, none⟩ = some (.int .i64 k) ∧ RB w' (.slice a2 t2.length c2) t2) (by kernel_rfl) ⟨q0, q1, q2, hr5⟩ (fun hHeld => ?_)
      refine wpAnyH_take (i := 0) (oi := ⟨some 21, _, _, _, _, _⟩) (v := ?_) rfl (by kernel_rfl) (by kernel_rfl) (by kernel_rfl) (fun _ _ _ h => h) (Or.inl ⟨by rfl, ?_⟩) (by assumption) ?_
      rotate_left
      · intro w hSw
        (try dsimp only at hSw)
        go_simp
        (try with_reducible rfl)
      (try simp only [Act.put, List.setIfInBounds_toArray, List.set_cons_zero, List.set_cons_succ])
      refine wpAnyH_take (i := 1) (oi := ⟨some 22, _, _, _, _, _⟩) (v := ?_) rfl (by kernel_rfl) (by kernel_rfl) (by kernel_rfl) (fun _ _ _ h => h) (Or.inl ⟨by rfl, ?_⟩) (by assumption) ?_
      rotate_left
      · intro w hSw
        (try dsimp only at hSw)
        go_simp
        (try with_reducible rfl)
      (try simp only [Act.put, List.setIfInBounds_toArray, List.set_cons_zero, List.set_cons_succ])
      refine wpAnyH_take (i := 2) (oi := ⟨some 23, _, _, _, _, _⟩) (v := ?_) rfl (by kernel_rfl) (by kernel_rfl) (by kernel_rfl) (fun _ _ _ h => h) (Or.inl ⟨by rfl, ?_⟩) (by assumption) ?_
      rotate_left
      · intro w hSw
        (try dsimp only at hSw)
        have hst := hstr _ hSw.2.2.2
        go_simp
        (try with_reducible rfl)
      (try simp only [Act.put, List.setIfInBounds_toArray, List.set_cons_zero, List.set_cons_succ])
      refine wpAnyH_take (i := 3) (oi := ⟨some 24, _, _, _, _, _⟩) (v := ?_) rfl (by kernel_rfl) (by kernel_rfl) (by kernel_rfl) (fun _ _ _ h => h) (Or.inl ⟨by rfl, ?_⟩) (by assumption) ?_
      rotate_left
      · intro w hSw
        (try dsimp only at hSw)
        go_simp
        (try with_reducible rfl)
      (try simp only [Act.put, List.setIfInBounds_toArray, List.set_cons_zero, List.set_cons_succ])
      refine wpAnyH_take (i := 4) (oi := ⟨some 25, _, _, _, _, _⟩) (v := ?_) rfl (by kernel_rfl) (by kernel_rfl) (by kernel_rfl) (fun _ _ _ h => h) (Or.inl ⟨by rfl, ?_⟩) (by assumption) ?_
      rotate_left
      · intro w hSw
        (try dsimp only at hSw)
        go_simp
        (try with_reducible rfl)
      (try simp only [Act.put, List.setIfInBounds_toArray, List.set_cons_zero, List.set_cons_succ])
      refine wpAnyH_take (i := 5) (oi := ⟨some 26, _, _, _, _, _⟩) (v := ?_) rfl (by kernel_rfl) (by kernel_rfl) (by kernel_rfl) (fun _ _ _ h => h) (Or.inl ⟨by rfl, ?_⟩) (by assumption) ?_
      rotate_left
      · intro w hSw
        (try dsimp only at hSw)
        go_simp
        (try with_reducible rfl)
      (try simp only [Act.put, List.setIfInBounds_toArray, List.set_cons_zero, List.set_cons_succ])
      refine wpAnyH_take (i := 6) (oi := ⟨some 27, _, _, _, _, _⟩) (v := undef) rfl (by kernel_rfl) (by kernel_rfl) (by kernel_rfl) (fun _ _ _ h => h) (Or.inr ⟨by rfl, rfl⟩) (by assumption) ?_
      (try simp only [Act.put, List.setIfInBounds_toArray, List.set_cons_zero, List.set_cons_succ])
      refine wpAnyH_take (i := 7) (oi := ⟨some 28, _, _, _, _, _⟩) (v := undef) rfl (by kernel_rfl) (by kernel_rfl) (by kernel_rfl) (fun _ _ _ h => h) (Or.inr ⟨by rfl, rfl⟩) (by assumption) ?_
      (try simp only [Act.put, List.setIfInBounds_toArray, List.set_cons_zero, List.set_cons_succ])
      refine wpAnyH_take (i := 8) (oi := ⟨some 29, _, _, _, _, _⟩) (v := undef) rfl (by kernel_rfl) (by kernel_rfl) (by kernel_rfl) (fun _ _ _ h => h) (Or.inr ⟨by rfl, rfl⟩) (by assumption) ?_
      (try simp only [Act.put, List.setIfInBounds_toArray, List.set_cons_zero, List.set_cons_succ])
      refine wpAnyH_take (i := 9) (oi := ⟨some 30, _, _, _, _, _⟩) (v := ?_) rfl (by kernel_rfl) (by kernel_rfl) (by kernel_rfl) (fun _ _ _ h => h) (Or.inl ⟨by rfl, ?_⟩) (by assumption) ?_
      rotate_left
      · intro w hSw
        (try dsimp only at hSw)
        go_simp
        (try with_reducible rfl)
      (try simp only [Act.put, List.setIfInBounds_toArray, List.set_cons_zero, List.set_cons_succ])
      refine wpAnyH_ready (rs := [10]) (by kernel_rfl) (by simp) ?_
      refine AllReadyH.cons (o := ⟨none, _, _, _, _, _⟩) rfl (fun K hK => ?_) ?_
      · go_simp
        refine hK.out _ _ ?_ (fun hHeld => ?_)
        · exact HSn.out
        clear hK K
        (try simp only [Act.put, List.setIfInBounds_toArray, List.set_cons_zero, List.set_cons_succ])
        refine wpAnyH_take (i := 11) (oi := ⟨some 3, _, _, _, _, _⟩) (v := ?_) rfl (by kernel_rfl) (by kernel_rfl) (by kernel_rfl) (fun _ _ _ h => h) (Or.inl ⟨by rfl, ?_⟩) (by assumption) ?_
        rotate_left
        · intro w hSw
          (try dsimp only at hSw)
          go_simp
          (try with_reducible rfl)
        (try simp only [Act.put, List.setIfInBounds_toArray, List.set_cons_zero, List.set_cons_succ])
        refine wpAnyH_take (i := 12) (oi := ⟨some 4, _, _, _, _, _⟩) (v := ?_) rfl (by kernel_rfl) (by kernel_rfl) (by kernel_rfl) (fun _ _ _ h => h) (Or.inl ⟨by rfl, ?_⟩) (by assumption) ?_
        rotate_left
        · intro w hSw
          (try dsimp only at hSw)
          go_simp
          (try with_reducible rfl)
        (try simp only [Act.put, List.setIfInBounds_toArray, List.set_cons_zero, List.set_cons_succ])
        refine wpAnyH_done (by kernel_rfl) ?_ _
        have hz : (((w5.setCell ⟨w.heap.size, 0, none⟩ (.string u)).setCell ⟨w.heap.size, 1, none⟩ (.int .i64 s)).setCell ⟨w.heap.size, 2, none⟩ (.int .i64 k)).drew.heap[w.heap.size]? = some (.cells #[.string u, .int .i64 s, .int .i64 k] 27 (0, 0)) ∧ Below w.heap.size w (((w5.setCell ⟨w.heap.size, 0, none⟩ (.string u)).setCell ⟨w.heap.size, 1, none⟩ (.int .i64 s)).setCell ⟨w.heap.size, 2, none⟩ (.int .i64 k)).drew := ⟨HRes.out, HBz.out⟩
        generalize (((w5.setCell ⟨w.heap.size, 0, none⟩ (.string u)).setCell ⟨w.heap.size, 1, none⟩ (.int .i64 s)).setCell ⟨w.heap.size, 2, none⟩ (.int .i64 k)).drew = wz at *
        obtain ⟨r0, r1, r2, _⟩ := cell3v hz.1
        go_wp2
        refine bodyPost_ret (v := .tuple #[.agg #[.string u, .int .i64 s, .int .i64 k], .string ⟨t2.toArray⟩, .bool false]) (by simp [results, Tryd.results39, go_sem, r0, r1, r2]) rfl ?_
        exact ⟨hz.2, u, s, k, _, _, rfl, .inr ⟨rfl, vread_no (by omega) HC1.out HC2.out (.inl hno)⟩⟩
      exact AllReadyH.nil
    · have HDn : Hid (Calls Tryd.prog 48 #[.pointer (some ⟨p, 0, none⟩)] w5.drew fun e w' => e = .returned (.int .i64 20) ∧ w5.drew = w') := Lib.hid (done_any (HRD5.out.below (Below.refl _ w5).drew) _ (by rw [if_neg hdn]))
      have HDH := Lib.hid hdn
      clear hdn
      refine wp_region_held_drew (S := fun w' => w'.cell? ⟨tq, 0, none⟩ = some (.string u) ∧ w'.cell? ⟨tq, 1, none⟩ = some (.int .i64 s) ∧ w'.cell? ⟨tq, 2, none⟩ = some (.int .i64 k) ∧ RB w' (.slice a2 t2.length c2) t2) (by kernel_rfl) ⟨q0, q1, q2, hr5⟩ (fun hHeld => ?_)
      refine wpAnyH_take (i := 0) (oi := ⟨some 21, _, _, _, _, _⟩) (v := ?_) rfl (by kernel_rfl) (by kernel_rfl) (by kernel_rfl) (fun _ _ _ h => h) (Or.inl ⟨by rfl, ?_⟩) (by assumption) ?_
      rotate_left
      · intro w hSw
        (try dsimp only at hSw)
        go_simp
        (try with_reducible rfl)
      (try simp only [Act.put, List.setIfInBounds_toArray, List.set_cons_zero, List.set_cons_succ])
      refine wpAnyH_take (i := 1) (oi := ⟨some 22, _, _, _, _, _⟩) (v := ?_) rfl (by kernel_rfl) (by kernel_rfl) (by kernel_rfl) (fun _ _ _ h => h) (Or.inl ⟨by rfl, ?_⟩) (by assumption) ?_
      rotate_left
      · intro w hSw
        (try dsimp only at hSw)
        go_simp
        (try with_reducible rfl)
      (try simp only [Act.put, List.setIfInBounds_toArray, List.set_cons_zero, List.set_cons_succ])
      refine wpAnyH_take (i := 2) (oi := ⟨some 23, _, _, _, _, _⟩) (v := ?_) rfl (by kernel_rfl) (by kernel_rfl) (by kernel_rfl) (fun _ _ _ h => h) (Or.inl ⟨by rfl, ?_⟩) (by assumption) ?_
      rotate_left
      · intro w hSw
        (try dsimp only at hSw)
        have hst := hstr _ hSw.2.2.2
        go_simp
        (try with_reducible rfl)
      (try simp only [Act.put, List.setIfInBounds_toArray, List.set_cons_zero, List.set_cons_succ])
      refine wpAnyH_take (i := 3) (oi := ⟨some 24, _, _, _, _, _⟩) (v := ?_) rfl (by kernel_rfl) (by kernel_rfl) (by kernel_rfl) (fun _ _ _ h => h) (Or.inl ⟨by rfl, ?_⟩) (by assumption) ?_
      rotate_left
      · intro w hSw
        (try dsimp only at hSw)
        go_simp
        (try with_reducible rfl)
      (try simp only [Act.put, List.setIfInBounds_toArray, List.set_cons_zero, List.set_cons_succ])
      refine wpAnyH_take (i := 4) (oi := ⟨some 25, _, _, _, _, _⟩) (v := ?_) rfl (by kernel_rfl) (by kernel_rfl) (by kernel_rfl) (fun _ _ _ h => h) (Or.inl ⟨by rfl, ?_⟩) (by assumption) ?_
      rotate_left
      · intro w hSw
        (try dsimp only at hSw)
        go_simp
        (try with_reducible rfl)
      (try simp only [Act.put, List.setIfInBounds_toArray, List.set_cons_zero, List.set_cons_succ])
      refine wpAnyH_take (i := 5) (oi := ⟨some 26, _, _, _, _, _⟩) (v := ?_) rfl (by kernel_rfl) (by kernel_rfl) (by kernel_rfl) (fun _ _ _ h => h) (Or.inl ⟨by rfl, ?_⟩) (by assumption) ?_
      rotate_left
      · intro w hSw
        (try dsimp only at hSw)
        go_simp
        (try with_reducible rfl)
      (try simp only [Act.put, List.setIfInBounds_toArray, List.set_cons_zero, List.set_cons_succ])
      refine wpAnyH_take (i := 6) (oi := ⟨some 27, _, _, _, _, _⟩) (v := undef) rfl (by kernel_rfl) (by kernel_rfl) (by kernel_rfl) (fun _ _ _ h => h) (Or.inr ⟨by rfl, rfl⟩) (by assumption) ?_
      (try simp only [Act.put, List.setIfInBounds_toArray, List.set_cons_zero, List.set_cons_succ])
      refine wpAnyH_take (i := 7) (oi := ⟨some 28, _, _, _, _, _⟩) (v := undef) rfl (by kernel_rfl) (by kernel_rfl) (by kernel_rfl) (fun _ _ _ h => h) (Or.inr ⟨by rfl, rfl⟩) (by assumption) ?_
      (try simp only [Act.put, List.setIfInBounds_toArray, List.set_cons_zero, List.set_cons_succ])
      refine wpAnyH_take (i := 8) (oi := ⟨some 29, _, _, _, _, _⟩) (v := undef) rfl (by kernel_rfl) (by kernel_rfl) (by kernel_rfl) (fun _ _ _ h => h) (Or.inr ⟨by rfl, rfl⟩) (by assumption) ?_
      (try simp only [Act.put, List.setIfInBounds_toArray, List.set_cons_zero, List.set_cons_succ])
      refine wpAnyH_take (i := 9) (oi := ⟨some 30, _, _, _, _, _⟩) (v := ?_) rfl (by kernel_rfl) (by kernel_rfl) (by kernel_rfl) (fun _ _ _ h => h) (Or.inl ⟨by rfl, ?_⟩) (by assumption) ?_
      rotate_left
      · intro w hSw
        (try dsimp only at hSw)
        go_simp
        (try with_reducible rfl)
      (try simp only [Act.put, List.setIfInBounds_toArray, List.set_cons_zero, List.set_cons_succ])
      refine wpAnyH_ready (rs := [10]) (by kernel_rfl) (by simp) ?_
      refine AllReadyH.cons (o := ⟨none, _, _, _, _, _⟩) rfl (fun K hK => ?_) ?_
      · go_simp
        refine hK.out _ _ ?_ (fun hHeld => ?_)
        · exact HSn.out
        clear hK K
        (try simp only [Act.put, List.setIfInBounds_toArray, List.set_cons_zero, List.set_cons_succ])
        refine wpAnyH_take (i := 11) (oi := ⟨some 3, _, _, _, _, _⟩) (v := ?_) rfl (by kernel_rfl) (by kernel_rfl) (by kernel_rfl) (fun _ _ _ h => h) (Or.inl ⟨by rfl, ?_⟩) (by assumption) ?_
        rotate_left
        · intro w hSw
          (try dsimp only at hSw)
          go_simp
          (try with_reducible rfl)
        (try simp only [Act.put, List.setIfInBounds_toArray, List.set_cons_zero, List.set_cons_succ])
        refine wpAnyH_take (i := 12) (oi := ⟨some 4, _, _, _, _, _⟩) (v := ?_) rfl (by kernel_rfl) (by kernel_rfl) (by kernel_rfl) (fun _ _ _ h => h) (Or.inl ⟨by rfl, ?_⟩) (by assumption) ?_
        rotate_left
        · intro w hSw
          (try dsimp only at hSw)
          go_simp
          (try with_reducible rfl)
        (try simp only [Act.put, List.setIfInBounds_toArray, List.set_cons_zero, List.set_cons_succ])
        refine wpAnyH_done (by kernel_rfl) ?_ _
        have hz : (((w5.setCell ⟨w.heap.size, 0, none⟩ (.string u)).setCell ⟨w.heap.size, 1, none⟩ (.int .i64 s)).setCell ⟨w.heap.size, 2, none⟩ (.int .i64 k)).drew.heap[w.heap.size]? = some (.cells #[.string u, .int .i64 s, .int .i64 k] 27 (0, 0)) ∧ Below w.heap.size w (((w5.setCell ⟨w.heap.size, 0, none⟩ (.string u)).setCell ⟨w.heap.size, 1, none⟩ (.int .i64 s)).setCell ⟨w.heap.size, 2, none⟩ (.int .i64 k)).drew := ⟨HRes.out, HBz.out⟩
        generalize (((w5.setCell ⟨w.heap.size, 0, none⟩ (.string u)).setCell ⟨w.heap.size, 1, none⟩ (.int .i64 s)).setCell ⟨w.heap.size, 2, none⟩ (.int .i64 k)).drew = wz at *
        obtain ⟨r0, r1, r2, _⟩ := cell3v hz.1
        go_wp2
        refine bodyPost_ret (v := .tuple #[.agg #[.string u, .int .i64 s, .int .i64 k], .string ⟨t2.toArray⟩, .bool false]) (by simp [results, Tryd.results39, go_sem, r0, r1, r2]) rfl ?_
        exact ⟨hz.2, u, s, k, _, _, rfl, .inr ⟨rfl, vread_no (by omega) HC1.out HC2.out (.inl hno)⟩⟩
      exact AllReadyH.nil
end Go.Proofs.YtmhklmecpbdljaaDoor
/- Chapter 14: Pointer.Check; Put; Get. -/

namespace Go.Proofs.YtmhklmecpbdljaaDoor
open Go.RowKit
set_option linter.unusedVariables false
set_option linter.unusedSimpArgs false

def pchk (z a n : Int) : Bool := decide (0 ≤ z ∧ z ≤ 63 ∧ 0 ≤ a ∧ a ≤ 65536 ∧ 1 ≤ n ∧ n ≤ 65536)
set_option maxRecDepth 100000 in
set_option maxHeartbeats 4000000 in
theorem pcheck (z a n : Int) (w : World) : Calls Tryd.prog 28 #[.agg #[.int .i64 z, .int .i64 a, .int .i64 n]] w fun e w' => e = .returned (.int .i64 (if pchk z a n = true then 0 else 140)) ∧ Below w.heap.size w w' := by
  have hba : Below w.heap.size w (w.alloc (.cells #[.int .i64 z, .int .i64 a, .int .i64 n] 25)) := (Below.refl _ w).alloc (Nat.le_refl _) _
  obtain ⟨q0, q1, q2⟩ := cells3n (w := w) (a := .int .i64 z) (b := .int .i64 a) (c := .int .i64 n) (T := 25)
  have HBA := Lib.hid hba
  have h7 : z < 0 ∨ (0 ≤ z ∧ 64 ≤ z) ∨ (0 ≤ z ∧ z < 64 ∧ a < 0) ∨ (0 ≤ z ∧ z < 64 ∧ 0 ≤ a ∧ 65536 < a) ∨ (0 ≤ z ∧ z < 64 ∧ 0 ≤ a ∧ a ≤ 65536 ∧ n < 1) ∨ (0 ≤ z ∧ z < 64 ∧ 0 ≤ a ∧ a ≤ 65536 ∧ 1 ≤ n ∧ 65536 < n) ∨ (0 ≤ z ∧ z < 64 ∧ 0 ≤ a ∧ a ≤ 65536 ∧ 1 ≤ n ∧ n ≤ 65536) := by omega
  unfold pchk
  clear hba
  rcases h7 with h1 | ⟨h1, h2⟩ | ⟨h1, h2, h3⟩ | ⟨h1, h2, h3, h4⟩ | ⟨h1, h2, h3, h4, h5⟩ | ⟨h1, h2, h3, h4, h5, h6⟩ | ⟨h1, h2, h3, h4, h5, h6⟩
  · have hd : decide (0 ≤ z ∧ z ≤ 63 ∧ 0 ≤ a ∧ a ≤ 65536 ∧ 1 ≤ n ∧ n ≤ 65536) = false := by rw [decide_eq_false_iff_not]; omega
    rw [hd]
    clear hd
    go_enter Tryd.func28, Tryd.ntmps28
    go_wp2
    go_ret
    exact ⟨by first | rfl | simp, HBA.out⟩
  · have hd : decide (0 ≤ z ∧ z ≤ 63 ∧ 0 ≤ a ∧ a ≤ 65536 ∧ 1 ≤ n ∧ n ≤ 65536) = false := by rw [decide_eq_false_iff_not]; omega
    rw [hd]
    clear hd
    go_enter Tryd.func28, Tryd.ntmps28
    go_wp2
    go_ret
    exact ⟨by first | rfl | simp, HBA.out⟩
  · have hd : decide (0 ≤ z ∧ z ≤ 63 ∧ 0 ≤ a ∧ a ≤ 65536 ∧ 1 ≤ n ∧ n ≤ 65536) = false := by rw [decide_eq_false_iff_not]; omega
    rw [hd]
    clear hd
    go_enter Tryd.func28, Tryd.ntmps28
    go_wp2
    go_ret
    exact ⟨by first | rfl | simp, HBA.out⟩
  · have hd : decide (0 ≤ z ∧ z ≤ 63 ∧ 0 ≤ a ∧ a ≤ 65536 ∧ 1 ≤ n ∧ n ≤ 65536) = false := by rw [decide_eq_false_iff_not]; omega
    rw [hd]
    clear hd
    go_enter Tryd.func28, Tryd.ntmps28
    go_wp2
    go_ret
    exact ⟨by first | rfl | simp, HBA.out⟩
  · have hd : decide (0 ≤ z ∧ z ≤ 63 ∧ 0 ≤ a ∧ a ≤ 65536 ∧ 1 ≤ n ∧ n ≤ 65536) = false := by rw [decide_eq_false_iff_not]; omega
    rw [hd]
    clear hd
    go_enter Tryd.func28, Tryd.ntmps28
    go_wp2
    go_ret
    exact ⟨by first | rfl | simp, HBA.out⟩
  · have hd : decide (0 ≤ z ∧ z ≤ 63 ∧ 0 ≤ a ∧ a ≤ 65536 ∧ 1 ≤ n ∧ n ≤ 65536) = false := by rw [decide_eq_false_iff_not]; omega
    rw [hd]
    clear hd
    go_enter Tryd.func28, Tryd.ntmps28
    go_wp2
    go_ret
    exact ⟨by first | rfl | simp, HBA.out⟩
  · have hd : decide (0 ≤ z ∧ z ≤ 63 ∧ 0 ≤ a ∧ a ≤ 65536 ∧ 1 ≤ n ∧ n ≤ 65536) = true := by rw [decide_eq_true_eq]; omega
    rw [hd]
    clear hd
    go_enter Tryd.func28, Tryd.ntmps28
    go_wp2
    go_ret
    exact ⟨by first | rfl | simp, HBA.out⟩
theorem neKey (u v : ByteArray) (s t k l : Int) (w : World) : (binOp .neq 27 (.agg #[.string u, .int .i64 s, .int .i64 k]) (.agg #[.string v, .int .i64 t, .int .i64 l])).run Tryd.prog w = .ok (.bool (!keq u s k v t l)) w := by
  rw [run_neq_struct, run_equalIn_agg w _ 27 _ _ ksF ksH]
  unfold keq
  simp [Program.fieldsOf, Tryd.underlying27, go_sem]
  split <;> (try split) <;> (try split) <;> simp_all
theorem keq_iff (u v : ByteArray) (s t k l : Int) : keq u s k v t l = true ↔ u = v ∧ s = t ∧ k = l := by
  unfold keq
  simp only [Bool.and_eq_true, beq_iff_eq]
  rw [ByteArray.toList_eq, ByteArray.toList_eq]
  constructor
  · rintro ⟨h1, h2, h3⟩
    exact ⟨by cases u; cases v; simp only at h1; congr 1; exact Array.toList_inj.1 h1, h2, h3⟩
  · rintro ⟨rfl, rfl, rfl⟩; exact ⟨rfl, rfl, rfl⟩
theorem keyBytes_inj {u v : ByteArray} {s t k l : Int} (h1 : keyRight u s k = true) (h2 : keyRight v t l = true) (e : keyBytes u.data.toList s k = keyBytes v.data.toList t l) : u = v ∧ s = t ∧ k = l := by
  simp only [keyRight, decide_eq_true_eq] at h1 h2
  obtain ⟨_, _, a3, a4, a5, a6⟩ := h1
  obtain ⟨_, _, b3, b4, b5, b6⟩ := h2
  obtain ⟨r, e1, e2⟩ := parse_back (u := u.data.toList) a3 a4 a5 a6
  obtain ⟨r', f1, f2⟩ := parse_back (u := v.data.toList) b3 b4 b5 b6
  rw [e, f1] at e1
  simp only [Option.some.injEq, Prod.mk.injEq] at e1
  obtain ⟨e3, rfl⟩ := e1
  rw [f2] at e2
  simp only [Option.some.injEq, Prod.mk.injEq] at e2
  refine ⟨?_, by omega, by omega⟩
  cases u; cases v; simp only at e3; congr 1; exact (Array.toList_inj.1 e3).symm
theorem recB_inj {u v : ByteArray} {s t k l : Int} {x y : ByteArray} (h1 : keyRight u s k = true) (h2 : keyRight v t l = true) (hx : x.size ≤ 1000000000000) (hy : y.size ≤ 1000000000000) (e : recB u s k x = recB v t l y) : (u = v ∧ s = t ∧ k = l) ∧ x = y := by
  obtain ⟨e1, e2⟩ := rdText_of_rec (v := x) h1 hx
  obtain ⟨f1, f2⟩ := rdText_of_rec (v := y) h2 hy
  rw [e, f1] at e1
  simp only [Option.some.injEq, Prod.mk.injEq] at e1
  obtain ⟨e3, e4⟩ := e1
  rw [← e4, f2] at e2
  simp only [Option.some.injEq, Prod.mk.injEq, and_true] at e2
  refine ⟨keyBytes_inj h1 h2 e3.symm, ?_⟩
  cases x; cases y; simp only at e2; congr 1; exact (Array.toList_inj.1 e2).symm
section
variable {w w' : World} {B q p : Nat} {v : Value} {G F : Nat → Prop} {D D' : Dv} {zs zs' : List Nat}
theorem LOut.after {w1 : World} (hb : Below w.heap.size w w1) (hF : ∀ k, F k → k < w.heap.size) (h : LOut w1 B q p F D zs w') : LOut w B q p F D zs w' := by
  obtain ⟨⟨F', h1, h2⟩, h3⟩ := h
  refine ⟨⟨F', h1, fun k hk => ?_⟩, (Chg.of_below hb).trans2 h3 fun _ _ h => h⟩
  rcases h2 k hk with h | h
  · exact .inl h
  · exact .inr (Nat.le_trans hb.size h)
/-- other blocks have turned since -/
theorem LOut.more {w1 : World} {E : Nat → Prop} (h : LOut w B q p F D zs w1) (hc : Chg E w1 w') (hE : ∀ k, E k → w.heap.size ≤ k) (hd : ∀ F' k, LI w1 B q p F' D zs → (∀ k, F' k → F k ∨ w.heap.size ≤ k) → F' k → ¬ E k) : LOut w B q p F D zs w' := by
  obtain ⟨⟨F', h1, h2⟩, h3⟩ := h
  exact ⟨⟨F', h1.chg hc (fun k hk => hd F' k h1 h2 hk), h2⟩, h3.trans2 hc fun i hi he => by have := hE i he; omega⟩
end
end Go.Proofs.YtmhklmecpbdljaaDoor
/- Chapter 14: Put; Get. -/

namespace Go.Proofs.YtmhklmecpbdljaaDoor
open Go.RowKit
set_option linter.unusedVariables false
set_option linter.unusedSimpArgs false

section
variable {w w' : World} {B q p : Nat} {G F : Nat → Prop} {D D' : Dv} {zs zs' : List Nat}
theorem LOut.put3 {w1 w2 : World} {t : Nat} (hb : Below w.heap.size w w1) (hF : ∀ k, F k → k < w.heap.size) (h : LOut w1 B q p F D zs w2) (ht : w.heap.size ≤ t) (ht1 : t < w1.heap.size) {w3 : World} (hc : Chg (fun j => j = t) w2 w3) : LOut w B q p F D zs w3 := by
  obtain ⟨⟨F', h1, h2⟩, h3⟩ := h
  refine ⟨⟨F', h1.chg hc fun k hk e => ?_, fun k hk => ?_⟩, ((Chg.of_below hb).trans2 h3 fun _ _ h => h).trans2 hc fun i hi e => by omega⟩
  · subst e
    rcases h2 k hk with h | h
    · have := hF k h; omega
    · omega
  · rcases h2 k hk with h | h
    · exact .inl h
    · exact .inr (Nat.le_trans hb.size h)
set_option maxRecDepth 100000 in
set_option maxHeartbeats 4000000 in
theorem put_bad (q : Nat) (u : ByteArray) (s k : Int) (v : ByteArray) (w : World) (h : keyRight u s k = false) :
    Calls Tryd.prog 13 #[.pointer (some ⟨q, 0, none⟩), .agg #[.string u, .int .i64 s, .int .i64 k], .string v] w fun e w' => e = .returned (.tuple #[.agg #[.int .i64 0, .int .i64 0, .int .i64 0], .int .i64 30]) ∧ Below w.heap.size w w' := by
  have hb1 : Below w.heap.size w (w.alloc (.cells #[.string u, .int .i64 s, .int .i64 k] 27)) := (Below.refl _ w).alloc (Nat.le_refl _) _
  have hb2 := (Below.refl (w.alloc (.cells #[.string u, .int .i64 s, .int .i64 k] 27)).heap.size (w.alloc (.cells #[.string u, .int .i64 s, .int .i64 k] 27))).alloc (Nat.le_refl _) (.cells #[.int .i64 0, .int .i64 0, .int .i64 0] 25)
  obtain ⟨q0, q1, q2⟩ := cells3n (w := w) (a := .string u) (b := .int .i64 s) (c := .int .i64 k) (T := 27)
  have k0 := cell_next q0 _ hb2
  have k1 := cell_next q1 _ hb2
  have k2 := cell_next q2 _ hb2
  have hp := heap_alloc_new (w.alloc (.cells #[.string u, .int .i64 s, .int .i64 k] 27)) (.cells #[.int .i64 0, .int .i64 0, .int .i64 0] 25)
  have hz1 : (w.alloc (.cells #[.string u, .int .i64 s, .int .i64 k] 27)).heap.size = w.heap.size + 1 := by simp
  rw [hz1] at hp
  have HB2 := Lib.hid (hb1.trans (hb2.mono hb1.size))
  have HPp := Lib.hid hp
  clear hb1 hb2 hp hz1 q0 q1 q2
  go_enter Tryd.func13, Tryd.ntmps13
  go_upto_region 1 with (fail)
  generalize (w.alloc (.cells #[.string u, .int .i64 s, .int .i64 k] 27)).alloc (.cells #[.int .i64 0, .int .i64 0, .int .i64 0] 25) = w1 at *
  have hlt := blk_lt HPp.out
  go_wp2_with fail; (with_reducible refine (record_bad u s k v _ h).mono ?_); rintro e w2 ⟨rfl, hb3⟩
  have hp2 := (hb3.block _ hlt).trans HPp.out
  have HB3 := Lib.hid (HB2.out.trans (hb3.mono HB2.out.size))
  obtain ⟨z0, z1, z2, zf⟩ := cell3v hp2
  have f0 := zf 0
  have f1 := zf 1
  have f2 := zf 2
  have hres : (((w2.setCell ⟨w.heap.size + 1, 0, none⟩ (.int .i64 0)).setCell ⟨w.heap.size + 1, 1, none⟩ (.int .i64 0)).setCell ⟨w.heap.size + 1, 2, none⟩ (.int .i64 0)).heap[w.heap.size + 1]? = some (.cells #[.int .i64 0, .int .i64 0, .int .i64 0] 25 (0, 0)) ∧ Below w.heap.size w (((w2.setCell ⟨w.heap.size + 1, 0, none⟩ (.int .i64 0)).setCell ⟨w.heap.size + 1, 1, none⟩ (.int .i64 0)).setCell ⟨w.heap.size + 1, 2, none⟩ (.int .i64 0)) := ⟨vset3 hp2 _ _ _, HB3.out.trans ((vset3_chg w2 _ _ _ _).below (fun k e => by omega) HB3.out.size)⟩
  have HRes := Lib.hid hres
  clear hb3 hp2 zf hres k0 k1 k2
  go_wp2
  have hz := HRes.out
  generalize (((w2.setCell ⟨w.heap.size + 1, 0, none⟩ (.int .i64 0)).setCell ⟨w.heap.size + 1, 1, none⟩ (.int .i64 0)).setCell ⟨w.heap.size + 1, 2, none⟩ (.int .i64 0)) = wz at *
  obtain ⟨r0, r1, r2, _⟩ := cell3v hz.1
  refine bodyPost_ret (v := .tuple #[.agg #[.int .i64 0, .int .i64 0, .int .i64 0], .int .i64 30]) (by simp [results, Tryd.results13, go_sem, r0, r1, r2]) rfl ?_
  exact ⟨rfl, hz.2⟩
set_option maxRecDepth 100000 in
set_option maxHeartbeats 4000000 in
theorem LI.put (h : LI w B q p F D zs) {u : ByteArray} {s k : Int} {v : ByteArray} (hr : keyRight u s k = true) (hv : v.size ≤ 1000000) (z a er zz aa nn : Int)
    (hA : ∀ (W : World) (ao : Option Addr) (c : Nat), Below w.heap.size w W → RB W (.slice ao (recB u s k v).length c) (recB u s k v) → Calls Tryd.prog 29 #[.pointer (some ⟨q, 0, none⟩), .slice ao (recB u s k v).length c] W fun e w' => e = .returned (.tuple #[.int .i64 z, .int .i64 a, .int .i64 er]) ∧ LOut W B q p F D' zs' w')
    (hres : (er = 0 ∧ zz = z ∧ aa = a ∧ nn = ((recB u s k v).length : Nat)) ∨ (er ≠ 0 ∧ zz = 0 ∧ aa = 0 ∧ nn = 0)) :
    Calls Tryd.prog 13 #[.pointer (some ⟨q, 0, none⟩), .agg #[.string u, .int .i64 s, .int .i64 k], .string v] w fun e w' => e = .returned (.tuple #[.agg #[.int .i64 zz, .int .i64 aa, .int .i64 nn], .int .i64 er]) ∧ LOut w B q p F D' zs' w' := by
  have hb1 : Below w.heap.size w (w.alloc (.cells #[.string u, .int .i64 s, .int .i64 k] 27)) := (Below.refl _ w).alloc (Nat.le_refl _) _
  have hb2 := (Below.refl (w.alloc (.cells #[.string u, .int .i64 s, .int .i64 k] 27)).heap.size (w.alloc (.cells #[.string u, .int .i64 s, .int .i64 k] 27))).alloc (Nat.le_refl _) (.cells #[.int .i64 0, .int .i64 0, .int .i64 0] 25)
  obtain ⟨q0, q1, q2⟩ := cells3n (w := w) (a := .string u) (b := .int .i64 s) (c := .int .i64 k) (T := 27)
  have k0 := cell_next q0 _ hb2
  have k1 := cell_next q1 _ hb2
  have k2 := cell_next q2 _ hb2
  have hp := heap_alloc_new (w.alloc (.cells #[.string u, .int .i64 s, .int .i64 k] 27)) (.cells #[.int .i64 0, .int .i64 0, .int .i64 0] 25)
  have hz1 : (w.alloc (.cells #[.string u, .int .i64 s, .int .i64 k] 27)).heap.size = w.heap.size + 1 := by simp
  rw [hz1] at hp
  have HB2 := Lib.hid (hb1.trans (hb2.mono hb1.size))
  have HPp := Lib.hid hp
  have HFl := Lib.hid (fun k hk => (h.ge k hk).2)
  have HA := Lib.hid hA
  have hlen := recB_len hr v hv
  have HRc : Hid (∀ W, Calls Tryd.prog 35 #[.agg #[.string u, .int .i64 s, .int .i64 k], .string v] W (BytesOut W (recB u s k v))) := Lib.hid fun W => record_ok u s k v W hr hv
  clear hb1 hb2 hp hz1 q0 q1 q2 h hA hr
  generalize recB u s k v = R at *
  go_enter Tryd.func13, Tryd.ntmps13
  go_upto_region 1 with (fail)
  generalize (w.alloc (.cells #[.string u, .int .i64 s, .int .i64 k] 27)).alloc (.cells #[.int .i64 0, .int .i64 0, .int .i64 0] 25) = w1 at *
  have hlt := blk_lt HPp.out
  go_wp2_with fail; (with_reducible refine (HRc.out _).mono ?_); rintro e w2 ⟨v2, rfl, ho2, ⟨g2, rfl⟩, hb3⟩
  have hp2 := (hb3.block _ hlt).trans HPp.out
  have HB3 := Lib.hid (HB2.out.trans (hb3.mono HB2.out.size))
  have HP2 := Lib.hid hp2
  have HAp := Lib.hid (HA.out _ _ _ HB3.out ho2.reads)
  have hlt2 := blk_lt hp2
  clear hb3 hp2 ho2 k0 k1 k2 HA HRc hlt
  go_wp2_with fail; (with_reducible refine (HAp.out).mono ?_); rintro e w3 ⟨rfl, ho3⟩
  have hp3 := blk_chg HP2.out ho3.2 (fun hf => by have := HFl.out _ hf; omega)
  have HO3 := Lib.hid ho3
  obtain ⟨z0, z1, z2, zf⟩ := cell3v hp3
  have f0 := zf 0
  have f1 := zf 1
  have f2 := zf 2
  have hres3 : ∀ x y zv : Value, (((w3.setCell ⟨w.heap.size + 1, 0, none⟩ x).setCell ⟨w.heap.size + 1, 1, none⟩ y).setCell ⟨w.heap.size + 1, 2, none⟩ zv).heap[w.heap.size + 1]? = some (.cells #[x, y, zv] 25 (0, 0)) ∧ LOut w B q p F D' zs' (((w3.setCell ⟨w.heap.size + 1, 0, none⟩ x).setCell ⟨w.heap.size + 1, 1, none⟩ y).setCell ⟨w.heap.size + 1, 2, none⟩ zv) := fun x y zv => ⟨vset3 hp3 _ _ _, HO3.out.put3 HB3.out HFl.out (by omega) hlt2 (vset3_chg w3 _ _ _ _)⟩
  have HRes := Lib.hid hres3
  clear ho3 hp3 zf hres3 HAp
  rcases hres with ⟨rfl, rfl, rfl, rfl⟩ | ⟨her, rfl, rfl, rfl⟩
  · go_wp2
    have hz := HRes.out (.int .i64 zz) (.int .i64 aa) (.int .i64 (R.length : Nat))
    generalize (((w3.setCell ⟨w.heap.size + 1, 0, none⟩ (.int .i64 zz)).setCell ⟨w.heap.size + 1, 1, none⟩ (.int .i64 aa)).setCell ⟨w.heap.size + 1, 2, none⟩ (.int .i64 (R.length : Nat))) = wz at *
    obtain ⟨r0, r1, r2, _⟩ := cell3v hz.1
    refine bodyPost_ret (v := .tuple #[.agg #[.int .i64 zz, .int .i64 aa, .int .i64 (R.length : Nat)], .int .i64 0]) (by simp [results, Tryd.results13, go_sem, r0, r1, r2]) rfl ?_
    exact ⟨rfl, hz.2⟩
  · have hne : (er != 0) = true := by rw [bne_iff_ne]; exact her
    clear her
    go_wp2
    have hz := HRes.out (.int .i64 0) (.int .i64 0) (.int .i64 0)
    generalize (((w3.setCell ⟨w.heap.size + 1, 0, none⟩ (.int .i64 0)).setCell ⟨w.heap.size + 1, 1, none⟩ (.int .i64 0)).setCell ⟨w.heap.size + 1, 2, none⟩ (.int .i64 0)) = wz at *
    obtain ⟨r0, r1, r2, _⟩ := cell3v hz.1
    refine bodyPost_ret (v := .tuple #[.agg #[.int .i64 0, .int .i64 0, .int .i64 0], .int .i64 er]) (by simp [results, Tryd.results13, go_sem, r0, r1, r2]) rfl ?_
    exact ⟨rfl, hz.2⟩
/-- what Get tells -/
def VGet (D : Dv) (z a n : Int) (u : ByteArray) (s k : Int) (v : ByteArray) (er : Int) : Prop :=
  (pchk z a n = false ∧ v = ⟨#[]⟩ ∧ er = 140) ∨ (pchk z a n = true ∧ (lread D z a n).2 ≠ 0 ∧ v = ⟨#[]⟩ ∧ er = (lread D z a n).2) ∨
  (pchk z a n = true ∧ (lread D z a n).2 = 0 ∧ er = 0 ∧ keyRight u s k = true ∧ (lread D z a n).1 = recB u s k v) ∨
  (pchk z a n = true ∧ (lread D z a n).2 = 0 ∧ er = 140 ∧ v = ⟨#[]⟩ ∧ ∀ x, keyRight u s k = true → (lread D z a n).1 ≠ recB u s k x)
theorem lread_len (D : Dv) (z a n : Int) : (lread D z a n).1.length ≤ 65536 := by
  unfold lread
  split
  · exact Nat.zero_le _
  · split
    · exact Nat.zero_le _
    · split
      · exact Nat.zero_le _
      · split
        · rename_i h1 _ _ _ _ h2
          simp only
          omega
        · exact Nat.zero_le _
set_option maxRecDepth 100000 in
set_option maxHeartbeats 4000000 in
theorem LI.get (h : LI w B q p F D zs) (hT : Tab9 w) (z a n : Int) (u : ByteArray) (s k : Int) :
    Calls Tryd.prog 15 #[.pointer (some ⟨q, 0, none⟩), .agg #[.int .i64 z, .int .i64 a, .int .i64 n], .agg #[.string u, .int .i64 s, .int .i64 k]] w fun e w' => ∃ v er, e = .returned (.tuple #[.string v, .int .i64 er]) ∧ VGet D z a n u s k v er ∧ Below w.heap.size w w' := by
  have hb1 : Below w.heap.size w (w.alloc (.cells #[.int .i64 z, .int .i64 a, .int .i64 n] 25)) := (Below.refl _ w).alloc (Nat.le_refl _) _
  have hb2 := (Below.refl (w.alloc (.cells #[.int .i64 z, .int .i64 a, .int .i64 n] 25)).heap.size (w.alloc (.cells #[.int .i64 z, .int .i64 a, .int .i64 n] 25))).alloc (Nat.le_refl _) (.cells #[.string u, .int .i64 s, .int .i64 k] 27)
  obtain ⟨q0, q1, q2⟩ := cells3n (w := w) (a := .int .i64 z) (b := .int .i64 a) (c := .int .i64 n) (T := 25)
  obtain ⟨y0, y1, y2⟩ := cells3n (w := w.alloc (.cells #[.int .i64 z, .int .i64 a, .int .i64 n] 25)) (a := .string u) (b := .int .i64 s) (c := .int .i64 k) (T := 27)
  have k0 := cell_next q0 _ hb2
  have k1 := cell_next q1 _ hb2
  have k2 := cell_next q2 _ hb2
  have hz1 : (w.alloc (.cells #[.int .i64 z, .int .i64 a, .int .i64 n] 25)).heap.size = w.heap.size + 1 := by simp
  rw [hz1] at y0 y1 y2
  have HB2 := Lib.hid (hb1.trans (hb2.mono hb1.size))
  have HL := Lib.hid (h.below HB2.out)
  have HT := Lib.hid (hT.below HB2.out)
  have hll := lread_len D z a n
  have HPc := Lib.hid (pcheck z a n)
  clear hb1 hb2 hz1 q0 q1 q2 h hT
  go_enter Tryd.func15, Tryd.ntmps15
  go_upto_region 1 with (fail)
  generalize (w.alloc (.cells #[.int .i64 z, .int .i64 a, .int .i64 n] 25)).alloc (.cells #[.string u, .int .i64 s, .int .i64 k] 27) = w1 at *
  have K0 := cell_next k0
  have K1 := cell_next k1
  have K2 := cell_next k2
  have Y0 := cell_next y0
  have Y1 := cell_next y1
  have Y2 := cell_next y2
  cases hpc : pchk z a n with
  | false =>
    have hP := HPc.out w1
    rw [hpc] at hP
    have HP : Hid (Calls Tryd.prog 28 #[.agg #[.int .i64 z, .int .i64 a, .int .i64 n]] w1 fun e w' => e = .returned (.int .i64 140) ∧ Below w1.heap.size w1 w') := Lib.hid hP
    clear hP HPc
    go_wp2_with fail; (with_reducible refine (HP.out).mono ?_); rintro e w2 ⟨rfl, hb2⟩
    go_wp2
    go_ret2
    exact ⟨_, _, rfl, .inl ⟨hpc, rfl, rfl⟩, HB2.out.trans (hb2.mono HB2.out.size)⟩
  | true =>
    have hP := HPc.out w1
    rw [hpc] at hP
    have HP : Hid (Calls Tryd.prog 28 #[.agg #[.int .i64 z, .int .i64 a, .int .i64 n]] w1 fun e w' => e = .returned (.int .i64 0) ∧ Below w1.heap.size w1 w') := Lib.hid hP
    have HPC := Lib.hid hpc
    clear hP HPc hpc
    go_wp2_with fail; (with_reducible refine (HP.out).mono ?_); rintro e w2 ⟨rfl, hb2⟩
    have HB3 := Lib.hid (HB2.out.trans (hb2.mono HB2.out.size))
    have hra := (HL.out.below hb2).readAt (HT.out.below hb2) z a n
    have hfin : ∀ v er, ((lread D z a n).2 ≠ 0 ∧ v = ⟨#[]⟩ ∧ er = (lread D z a n).2) ∨ ((lread D z a n).2 = 0 ∧ er = 0 ∧ keyRight u s k = true ∧ (lread D z a n).1 = recB u s k v) ∨ ((lread D z a n).2 = 0 ∧ er = 140 ∧ v = ⟨#[]⟩ ∧ ∀ x, keyRight u s k = true → (lread D z a n).1 ≠ recB u s k x) → VGet D z a n u s k v er := fun v er h => by
      rcases h with h | h | h
      · exact .inr (.inl ⟨HPC.out, h⟩)
      · exact .inr (.inr (.inl ⟨HPC.out, h⟩))
      · exact .inr (.inr (.inr ⟨HPC.out, h⟩))
    have HFin := Lib.hid hfin
    have HRa := Lib.hid hra
    have c0 := K0 _ hb2
    have c1 := K1 _ hb2
    have c2 := K2 _ hb2
    have Y0' := Y0
    have Y1' := Y1
    have Y2' := Y2
    have hz12 := hb2.size
    have HB12 := Lib.hid hb2
    clear hb2 hra hfin HP HL k0 k1 k2 K0 K1 K2 y0 y1 y2
    generalize lread D z a n = res at *
    obtain ⟨rb, er⟩ := res
    dsimp only at hll
    have hra : Calls Tryd.prog 16 #[.pointer (some ⟨q, 0, none⟩), .int .i64 z, .int .i64 a, .int .i64 n] w2 fun e w' => ∃ v, e = .returned (.tuple #[v, .int .i64 er]) ∧ OB w' w2.heap.size v rb ∧ Below w2.heap.size w2 w' := HRa.out
    have HRb := Lib.hid hra
    clear hra HRa
    go_wp2_with fail; (with_reducible refine (HRb.out).mono ?_); rintro e w3 ⟨v3, rfl, ho3, hb3⟩
    obtain ⟨a3, n3, c3, rfl, hm3⟩ := ho3.shape
    obtain rfl := ho3.len
    have HB4 := Lib.hid (HB3.out.trans (hb3.mono HB3.out.size))
    have HB13 := Lib.hid (HB12.out.trans (hb3.mono hz12))
    by_cases her : er = 0
    · subst her
      have HVr := Lib.hid (vread_any ho3.reads (by omega))
      clear ho3 hb3 HRb c0 c1 c2
      go_wp2_with fail; (with_reducible refine (HVr.out).mono ?_); rintro e w4 ⟨hb4, u', s', k', v', ok, rfl, hcase⟩
      have HB5 := Lib.hid (HB4.out.trans (hb4.mono HB4.out.size))
      have HB14 := Lib.hid (HB13.out.trans (hb4.mono HB13.out.size))
      have HCase := Lib.hid hcase
      have y0 := Y0 _ HB14.out
      have y1 := Y1 _ HB14.out
      have y2 := Y2 _ HB14.out
      have yb0 := cell_next y0 _ ((Below.refl _ w4).alloc (Nat.le_refl _) (.cells #[.string u', .int .i64 s', .int .i64 k'] 27))
      have yb1 := cell_next y1 _ ((Below.refl _ w4).alloc (Nat.le_refl _) (.cells #[.string u', .int .i64 s', .int .i64 k'] 27))
      have yb2 := cell_next y2 _ ((Below.refl _ w4).alloc (Nat.le_refl _) (.cells #[.string u', .int .i64 s', .int .i64 k'] 27))
      obtain ⟨x0, x1, x2⟩ := cells3n (w := w4) (a := .string u') (b := .int .i64 s') (c := .int .i64 k') (T := 27)
      have HB6 := Lib.hid (HB5.out.alloc HB5.out.size (.cells #[.string u', .int .i64 s', .int .i64 k'] 27))
      clear hb4 hcase HVr
      cases ok with
      | false =>
        have hno : ∀ u s k v, keyRight u s k = true → rb ≠ recB u s k v := by
          rcases HCase.out with ⟨h, _⟩ | ⟨_, h⟩
          · cases h
          · exact h
        have hf := HFin.out ⟨#[]⟩ 140 (.inr (.inr ⟨by trivial, rfl, rfl, fun x hx => hno u s k x hx⟩))
        have HF := Lib.hid hf
        clear hno hf
        go_wp2
        go_ret2
        exact ⟨_, _, rfl, HF.out, HB6.out⟩
      | true =>
        obtain ⟨hr', hrb⟩ : keyRight u' s' k' = true ∧ rb = recB u' s' k' v' := by
          rcases HCase.out with ⟨_, h⟩ | ⟨h, _⟩
          · exact h
          · cases h
        have hne := neKey u' u s' s k' k
        cases hq : keq u' s' k' u s k with
        | true =>
          obtain ⟨rfl, rfl, rfl⟩ := (keq_iff _ _ _ _ _ _).1 hq
          rw [hq] at hne
          have HF := Lib.hid (HFin.out v' 0 (.inr (.inl ⟨by trivial, rfl, hr', hrb⟩)))
          clear hq hr' hrb
          go_wp2
          go_ret2
          exact ⟨_, _, rfl, HF.out, HB6.out⟩
        | false =>
          rw [hq] at hne
          have hno : ∀ x, keyRight u s k = true → rb ≠ recB u s k x := fun x hx e => by
            have h1 := recB_ge u s k x
            rw [← e] at h1
            have h2 := recB_ge u' s' k' v'
            rw [← hrb] at h2
            rw [hrb] at e
            obtain ⟨h3, _⟩ := recB_inj hr' hx (by omega) (by omega) e
            rw [(keq_iff _ _ _ _ _ _).2 h3] at hq
            cases hq
          have HF := Lib.hid (HFin.out ⟨#[]⟩ 140 (.inr (.inr ⟨by trivial, rfl, rfl, hno⟩)))
          clear hq hr' hrb hno
          go_wp2
          go_ret2
          exact ⟨_, _, rfl, HF.out, HB6.out⟩
    · have hne : (er != 0) = true := by rw [bne_iff_ne]; exact her
      have HF := Lib.hid (HFin.out ⟨#[]⟩ er (.inl ⟨her, rfl, rfl⟩))
      clear her ho3 hb3 HRb c0 c1 c2
      go_wp2
      go_ret2
      exact ⟨_, _, rfl, HF.out, HB4.out⟩
end
end Go.Proofs.YtmhklmecpbdljaaDoor
