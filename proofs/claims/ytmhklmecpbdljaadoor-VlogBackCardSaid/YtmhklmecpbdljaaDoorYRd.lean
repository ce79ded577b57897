/- Contracts of wire.Reader: NewReader, Raw, Byte, Done; and of bytes.Clone. -/
import Derived.Test.YtmhklmecpbdljaaDoorYJm
namespace Go.Proofs.YtmhklmecpbdljaaDoor
open Go.RowKit
set_option linter.unusedVariables false

/-- at block p lies a Reader: the bytes that are left lie in block 'go'; is it bad? -/
def RD (w : World) (p : Nat) (go : Option Nat) (l : List UInt8) (bad : Bool) : Prop :=
  ∃ v, w.heap[p]? = some (.cells #[v, .bool bad] 120 (0, 0)) ∧ RB w v l ∧ (∃ ao n c, v = .slice ao n c ∧ c ≤ maxLen) ∧ (∀ k, v.ownBlock = some k → go = some k) ∧ (∀ k, go = some k → k < w.heap.size ∧ k ≠ p)

theorem RD.lt {w : World} {p : Nat} {go : Option Nat} {l : List UInt8} {bad : Bool} (h : RD w p go l bad) : p < w.heap.size := by
  obtain ⟨v, h1, _⟩ := h; exact (Array.getElem?_eq_some_iff.1 h1).1
theorem RD.kept {w w' : World} {p : Nat} {go : Option Nat} {l : List UInt8} {bad : Bool} (h : RD w p go l bad) (hz : w.heap.size ≤ w'.heap.size) (hs : ∀ k, k < w.heap.size → (k = p ∨ go = some k) → w'.heap[k]? = w.heap[k]?) : RD w' p go l bad := by
  obtain ⟨v, h1, h2, h3, h4, h5⟩ := h
  refine ⟨v, by rw [hs p (Array.getElem?_eq_some_iff.1 h1).1 (.inl rfl)]; exact h1, ?_, h3, h4, fun k hk => ⟨Nat.lt_of_lt_of_le (h5 k hk).1 hz, (h5 k hk).2⟩⟩
  refine h2.same fun b off hb _ ⟨o, n, c, hv⟩ => hs b hb (.inr (h4 b (by rw [hv]; rfl)))
theorem RD.below {w w' : World} {p : Nat} {go : Option Nat} {l : List UInt8} {bad : Bool} (h : RD w p go l bad) (hb : Below w.heap.size w w') : RD w' p go l bad :=
  h.kept hb.size fun k hk _ => hb.block k hk
theorem cell_two {w : World} {p : Nat} {a b : Value} {T : TypeId} (h : w.heap[p]? = some (.cells #[a, b] T (0, 0))) : w.cell? ⟨p, 0, none⟩ = some a ∧ w.cell? ⟨p, 1, none⟩ = some b ∧ w.frozen? ⟨p, 0, none⟩ = false ∧ w.frozen? ⟨p, 1, none⟩ = false := by
  refine ⟨?_, ?_, ?_, ?_⟩
  · rw [cell_of_row _ _ _ _ _ _ h]; rfl
  · rw [cell_of_row _ _ _ _ _ _ h]; rfl
  · simp [World.frozen?, h]
  · simp [World.frozen?, h]
theorem heap_set0 {w : World} {p : Nat} {a b v : Value} {T : TypeId} (h : w.heap[p]? = some (.cells #[a, b] T (0, 0))) : (w.setCell ⟨p, 0, none⟩ v).heap[p]? = some (.cells #[v, b] T (0, 0)) := by
  simp only [World.setCell, Array.getElem?_modify, if_true, h]; rfl
theorem heap_set1 {w : World} {p : Nat} {a b v : Value} {T : TypeId} (h : w.heap[p]? = some (.cells #[a, b] T (0, 0))) : (w.setCell ⟨p, 1, none⟩ v).heap[p]? = some (.cells #[a, v] T (0, 0)) := by
  simp only [World.setCell, Array.getElem?_modify, if_true, h]; rfl
theorem grown_set (w : World) (p o : Nat) (v : Value) : w.grownBy (w.setCell ⟨p, o, none⟩ v) (some p) :=
  ⟨rfl, rfl, rfl, by simp [World.setCell], fun k _ hne => Below.heap_setCell _ _ _ _ (fun e => hne (by rw [e]))⟩

/-- Raw, where it reads -/
def RawOut (w : World) (p : Nat) (go : Option Nat) (l : List UInt8) (n : Nat) (e : Ending) (w' : World) : Prop :=
  ∃ v, e = .returned v ∧ RB w' v (l.take n) ∧ RD w' p go (l.drop n) false ∧ w.grownBy w' (some p) ∧ (∀ k, v.ownBlock = some k → go = some k) ∧ (∃ ao c, v = .slice ao n c ∧ c ≤ maxLen)

theorem rb_take {w : World} {b off c c' : Nat} {l : List UInt8} {n : Nat} (h : RB w (.slice (some ⟨b, off, none⟩) l.length c) l) (hn : n ≤ l.length) (hc : n ≤ c') : RB w (.slice (some ⟨b, off, none⟩) n c') (l.take n) := by
  obtain ⟨ao, c2, hv, hc2, hr⟩ := h
  simp only [Value.slice.injEq] at hv
  obtain ⟨rfl, _, rfl⟩ := hv
  have hl : (l.take n).length = n := by rw [List.length_take]; omega
  refine ⟨_, c', by rw [hl], by rw [hl]; exact hc, fun hp => ?_⟩
  rw [hl] at hp
  obtain ⟨b2, off2, hb, hcell⟩ := hr (by omega)
  cases hb
  refine ⟨_, _, rfl, fun j hj => ?_⟩
  rw [hl] at hj
  rw [hcell j (by omega)]
  simp
theorem rb_drop {w : World} {b off c c' : Nat} {l : List UInt8} {n : Nat} (h : RB w (.slice (some ⟨b, off, none⟩) l.length c) l) (hn : n ≤ l.length) (hc : l.length - n ≤ c') : RB w (.slice (some ⟨b, off + n, none⟩) (l.length - n) c') (l.drop n) := by
  obtain ⟨ao, c2, hv, hc2, hr⟩ := h
  simp only [Value.slice.injEq] at hv
  obtain ⟨rfl, _, rfl⟩ := hv
  have hl : (l.drop n).length = l.length - n := List.length_drop
  refine ⟨_, c', by rw [hl], by rw [hl]; exact hc, fun hp => ?_⟩
  rw [hl] at hp
  obtain ⟨b2, off2, hb, hcell⟩ := hr (by omega)
  cases hb
  refine ⟨_, _, rfl, fun j hj => ?_⟩
  rw [hl] at hj
  rw [Nat.add_assoc, hcell (n + j) (by omega)]
  simp

theorem RB.capl {w : World} {a : Option Addr} {n c : Nat} {l : List UInt8} (h : RB w (.slice a n c) l) : n ≤ c := by
  obtain ⟨ao, c', hv, hc, _⟩ := h; simp only [Value.slice.injEq] at hv; obtain ⟨_, rfl, rfl⟩ := hv; exact hc
theorem RB.addr {w : World} {a : Option Addr} {n c : Nat} {l : List UInt8} (h : RB w (.slice a n c) l) (hl : 0 < l.length) : ∃ b off, a = some ⟨b, off, none⟩ := by
  obtain ⟨ao, c', hv, hc, hr⟩ := h
  simp only [Value.slice.injEq] at hv
  obtain ⟨b, off, hb, _⟩ := hr hl
  exact ⟨b, off, by rw [hv.1, hb]⟩

/-- a Reader's block behind a store of the bytes that are left -/
theorem RD.set {w : World} {p : Nat} {go : Option Nat} {m : List UInt8} {a a' : Option Addr} {n c n' c' : Nat} (hp : w.heap[p]? = some (.cells #[.slice a n c, .bool false] 120 (0, 0)))
    (hg : ∀ k, go = some k → k < w.heap.size ∧ k ≠ p) (hb : RB w (.slice a' n' c') m) (hm : c' ≤ maxLen) (ho : ∀ k, (Value.slice a' n' c').ownBlock = some k → go = some k) :
    RD (w.setCell ⟨p, 0, none⟩ (.slice a' n' c')) p go m false := by
  refine ⟨_, heap_set0 hp, ?_, ⟨_, _, _, rfl, hm⟩, ho, fun k hk => ⟨by simpa [World.setCell] using (hg k hk).1, (hg k hk).2⟩⟩
  refine hb.same fun b off hlt _ ⟨o, n2, c2, hv⟩ => ?_
  have := ho b (by rw [hv]; rfl)
  exact Below.heap_setCell _ _ _ _ (fun e => (hg b this).2 e)
theorem rb_set {w : World} {p : Nat} {go : Option Nat} {m : List UInt8} {a' : Option Addr} {n' c' : Nat} {v : Value} (hg : ∀ k, go = some k → k < w.heap.size ∧ k ≠ p) (hb : RB w (.slice a' n' c') m) (ho : ∀ k, (Value.slice a' n' c').ownBlock = some k → go = some k) (o : Nat) :
    RB (w.setCell ⟨p, o, none⟩ v) (.slice a' n' c') m := by
  refine hb.same fun b off hlt _ ⟨o, n2, c2, hv⟩ => ?_
  have := ho b (by rw [hv]; rfl)
  exact Below.heap_setCell _ _ _ _ (fun e => (hg b this).2 e)

set_option maxHeartbeats 1000000 in
theorem raw_ok {w : World} {p : Nat} {go : Option Nat} {l : List UInt8} (h : RD w p go l false) (n : Nat) (hn : n ≤ l.length) :
    Calls Tryd.prog 77 #[.pointer (some ⟨p, 0, none⟩), .int .i64 n] w (RawOut w p go l n) := by
  obtain ⟨v, hp, hrb, ⟨ao, n0, c, rfl, hm⟩, hgo, hg⟩ := h
  have hlen := hrb.len
  subst hlen
  have hlc := hrb.capl
  obtain ⟨k0, k1, f0, f1⟩ := cell_two hp
  have Hm := Lib.hid hm
  unfold maxLen at hm
  have Hp := Lib.hid hp
  have Hrb := Lib.hid hrb
  have Hgo := Lib.hid hgo
  have Hg := Lib.hid hg
  clear hp hrb hgo hg
  by_cases hl0 : l.length = 0
  · have hl1 : l = [] := List.eq_nil_of_length_eq_zero hl0
    subst hl1
    obtain rfl : n = 0 := by simpa using hn
    have hgo0 : ∀ c' k, (Value.slice ao 0 c').ownBlock = some k → go = some k := fun c' k hk => Hgo.out k (by cases ao <;> simp_all [Value.ownBlock])
    have Hgo0 := Lib.hid hgo0
    clear hgo0 hl0 hn
    have k0 : w.cell? ⟨p, 0, none⟩ = some (.slice ao 0 c) := k0
    cases ao with
    | none =>
      go_enter Tryd.func77, Tryd.ntmps77
      go_wp2
      all_goals (go_ret; exact ⟨_, rfl, RB.nil _ _ _, RD.set Hp.out Hg.out (RB.nil _ _ _) Hm.out (Hgo0.out _), grown_set _ _ _ _, Hgo0.out _, ⟨_, _, rfl, by decide⟩⟩)
    | some a =>
      go_enter Tryd.func77, Tryd.ntmps77
      go_wp2
      all_goals (go_ret; exact ⟨_, rfl, RB.nil _ _ _, RD.set Hp.out Hg.out (RB.nil _ _ _) Hm.out (Hgo0.out _), grown_set _ _ _ _, Hgo0.out _, ⟨_, _, rfl, by decide⟩⟩)
  · obtain ⟨b, off, rfl⟩ := Hrb.out.addr (by omega)
    have Hgo0 : Hid (∀ o n' c' k, (Value.slice (some ⟨b, o, none⟩) n' c').ownBlock = some k → go = some k) := Lib.hid fun o n' c' k hk => Hgo.out k (by simpa [Value.ownBlock] using hk)
    go_enter Tryd.func77, Tryd.ntmps77
    go_wp2
    · go_ret
      rename_i hcn
      have hz : l.length - n = 0 := by omega
      refine ⟨_, rfl, rb_set Hg.out (rb_take Hrb.out hn (Nat.le_refl _)) (Hgo0.out _ _ _) 0, RD.set Hp.out Hg.out ?_ (by decide) (Hgo0.out _ _ _), grown_set _ _ _ _, Hgo0.out _ _ _, ⟨_, _, rfl, Nat.le_trans hn (Nat.le_trans hlc Hm.out)⟩⟩
      rw [hz, List.drop_of_length_le (by omega)]
      exact RB.nil _ _ _
    · go_ret
      refine ⟨_, rfl, ?_, ?_, grown_set _ _ _ _, Hgo0.out _ _ _, ⟨_, _, rfl, Nat.le_trans hn (Nat.le_trans hlc Hm.out)⟩⟩
      · exact rb_set Hg.out (rb_take Hrb.out hn (Nat.le_refl _)) (Hgo0.out _ _ _) 0
      · exact RD.set Hp.out Hg.out (rb_drop Hrb.out hn (by omega)) (Nat.le_trans (Nat.sub_le _ _) Hm.out) (Hgo0.out _ _ _)

/-- behind a reading that fails -/
def RawBad (w : World) (p : Nat) (go : Option Nat) (l : List UInt8) (v : Value) (e : Ending) (w' : World) : Prop :=
  e = .returned v ∧ RD w' p go l true ∧ w.grownBy w' (some p)

theorem RD.setBad {w : World} {p : Nat} {go : Option Nat} {l : List UInt8} {bad : Bool} (h : RD w p go l bad) : RD (w.setCell ⟨p, 1, none⟩ (.bool true)) p go l true := by
  obtain ⟨v, hp, hrb, ⟨ao, n0, c, rfl, hm⟩, hgo, hg⟩ := h
  exact ⟨_, heap_set1 hp, rb_set hg hrb hgo 1, ⟨_, _, _, rfl, hm⟩, hgo, fun k hk => ⟨by simpa [World.setCell] using (hg k hk).1, (hg k hk).2⟩⟩

set_option maxHeartbeats 1000000 in
theorem raw_bad {w : World} {p : Nat} {go : Option Nat} {l : List UInt8} {bad : Bool} (h : RD w p go l bad) (n : Int) (hn : bad = true ∨ n < 0 ∨ l.length < n) :
    Calls Tryd.prog 77 #[.pointer (some ⟨p, 0, none⟩), .int .i64 n] w (RawBad w p go l (.slice none 0 0)) := by
  have H := Lib.hid h
  obtain ⟨v, hp, hrb, ⟨ao, n0, c, rfl, hm⟩, hgo, hg⟩ := h
  have hlen := hrb.len
  subst hlen
  have hlc := hrb.capl
  obtain ⟨k0, k1, f0, f1⟩ := cell_two hp
  unfold maxLen at hm
  clear hp hrb hgo hg
  by_cases hb : bad = true
  · subst hb
    clear hn
    go_enter Tryd.func77, Tryd.ntmps77
    go_wp2
    go_ret
    exact ⟨rfl, H.out.setBad, grown_set _ _ _ _⟩
  · have hb : bad = false := by simpa using hb
    subst hb
    by_cases hneg : n < 0
    · clear hn
      go_enter Tryd.func77, Tryd.ntmps77
      go_wp2
      go_ret
      exact ⟨rfl, H.out.setBad, grown_set _ _ _ _⟩
    · have hgt : (l.length : Int) < n := by rcases hn with h | h | h <;> first | exact absurd h (by decide) | omega
      clear hn
      go_enter Tryd.func77, Tryd.ntmps77
      go_wp2
      go_ret
      exact ⟨rfl, H.out.setBad, grown_set _ _ _ _⟩

/-- one byte was read -/
def ByteOut (w : World) (p : Nat) (go : Option Nat) (c : UInt8) (l : List UInt8) (e : Ending) (w' : World) : Prop :=
  e = .returned (.int .u8 (c.toNat : Int)) ∧ RD w' p go l false ∧ w.grownBy w' (some p)

set_option maxHeartbeats 1000000 in
theorem byte_ok {w : World} {p : Nat} {go : Option Nat} {c : UInt8} {l : List UInt8} (h : RD w p go (c :: l) false) :
    Calls Tryd.prog 70 #[.pointer (some ⟨p, 0, none⟩)] w (ByteOut w p go c l) := by
  have hr := raw_ok h 1 (by simp)
  have Hr := Lib.hid hr
  clear hr h
  have q22 : ∀ (w : World) (a : Option Addr) (n c n' c' : Nat), (binOp .eql 23 (.slice a n c) (.slice none n' c')).run Tryd.prog w = .ok (.bool a.isNone) w := fun w a n c n' c' => Lib.run_eql_slice_nil w _ _ a n c n' c' Tryd.underlying23
  go_enter Tryd.func70, Tryd.ntmps70
  go_wp2_with fail
  refine Hr.out.mono ?_
  rintro e w1 ⟨v, rfl, hrb, hrd, hgr, hgo, ⟨ao, c2, rfl, hm⟩⟩
  have hrb1 : RB w1 (.slice ao 1 c2) [c] := hrb
  obtain ⟨b, off, rfl⟩ := hrb1.addr (by simp)
  have hcell : w1.cell? ⟨b, off, none⟩ = some (.int .u8 (c.toNat : Int)) := by
    obtain ⟨ao, c3, hv, _, hr⟩ := hrb1
    obtain ⟨b2, off2, hb, hc⟩ := hr (by simp)
    simp only [Value.slice.injEq] at hv
    rw [hb] at hv
    obtain ⟨h1, _⟩ := hv
    cases h1
    simpa [bv] using hc 0 (by simp)
  have Hrd := Lib.hid hrd
  have Hgr := Lib.hid hgr
  clear hrb hrb1 hrd hgr hgo
  go_wp2
  go_ret
  exact ⟨rfl, Hrd.out, Hgr.out⟩

set_option maxHeartbeats 1000000 in
theorem byte_bad {w : World} {p : Nat} {go : Option Nat} {l : List UInt8} {bad : Bool} (h : RD w p go l bad) (hn : bad = true ∨ l = []) :
    Calls Tryd.prog 70 #[.pointer (some ⟨p, 0, none⟩)] w (RawBad w p go l (.int .u8 0)) := by
  have hr := raw_bad h 1 (by rcases hn with h | h; exact .inl h; exact .inr (.inr (by rw [h]; decide)))
  have Hr := Lib.hid hr
  clear hr h hn
  have q22 : ∀ (w : World) (a : Option Addr) (n c n' c' : Nat), (binOp .eql 23 (.slice a n c) (.slice none n' c')).run Tryd.prog w = .ok (.bool a.isNone) w := fun w a n c n' c' => Lib.run_eql_slice_nil w _ _ a n c n' c' Tryd.underlying23
  go_enter Tryd.func70, Tryd.ntmps70
  go_wp2_with fail
  refine Hr.out.mono ?_
  rintro e w1 ⟨rfl, hrd, hgr⟩
  have Hrd := Lib.hid hrd
  have Hgr := Lib.hid hgr
  clear hrd hgr
  go_wp2
  go_ret
  exact ⟨rfl, Hrd.out, Hgr.out⟩

theorem done_any {w : World} {p : Nat} {go : Option Nat} {l : List UInt8} {bad : Bool} (h : RD w p go l bad) (z : Int) (hz : z = if bad = false ∧ l = [] then 0 else 20) :
    Calls Tryd.prog 48 #[.pointer (some ⟨p, 0, none⟩)] w fun e w' => e = .returned (.int .i64 z) ∧ w = w' := by
  obtain ⟨v, hp, hrb, ⟨ao, n0, c, rfl, hm⟩, hgo, hg⟩ := h
  have hlen := hrb.len
  subst hlen
  have hlc := hrb.capl
  obtain ⟨k0, k1, f0, f1⟩ := cell_two hp
  unfold maxLen at hm
  clear hp hrb hgo hg
  cases bad with
  | true =>
    obtain rfl : z = 20 := by rw [hz, if_neg (fun h => by cases h.1)]
    clear hz
    go_enter Tryd.func48, Tryd.ntmps48
    go_wp2
    go_ret
    exact ⟨rfl, rfl⟩
  | false =>
    by_cases hl : l = []
    · obtain rfl : z = 0 := by rw [hz, if_pos ⟨rfl, hl⟩]
      clear hz
      subst hl
      go_enter Tryd.func48, Tryd.ntmps48
      go_wp2
      go_ret
      exact ⟨rfl, rfl⟩
    · obtain rfl : z = 20 := by rw [hz, if_neg (fun h => hl h.2)]
      clear hz
      have hl2 : 0 < l.length := by rcases Nat.eq_zero_or_pos l.length with h0 | h0; exact absurd (List.eq_nil_of_length_eq_zero h0) hl; exact h0
      clear hl
      go_enter Tryd.func48, Tryd.ntmps48
      go_wp2
      go_ret
      exact ⟨rfl, rfl⟩

/-- a copy in new memory; nil just where it was nil -/
def CloneOut (w : World) (v : Value) (l : List UInt8) (e : Ending) (w' : World) : Prop :=
  ∃ v', e = .returned v' ∧ OB w' w.heap.size v' l ∧ Below w.heap.size w w' ∧ (v' = .slice none 0 0 ↔ ∃ n c, v = .slice none n c) ∧ (∃ ao n c, v' = .slice ao n c ∧ c ≤ maxLen)

theorem OB.shape {w : World} {B : Nat} {v : Value} {l : List UInt8} (h : OB w B v l) : ∃ ao n c, v = .slice ao n c ∧ c ≤ maxLen := by
  rcases h.2 with ⟨h1, _⟩ | ⟨g, cap, cur, hv, _, _, _, hm, _⟩
  · exact ⟨_, _, _, h1, by decide⟩
  · exact ⟨_, _, _, hv, hm⟩

set_option maxHeartbeats 1000000 in
theorem clone_any {w : World} {ao : Option Addr} {n c : Nat} {l : List UInt8} (h : RB w (.slice ao n c) l) (hl : l.length ≤ 140737488355328) :
    Calls Tryd.prog 63 #[.slice ao n c] w (CloneOut w (.slice ao n c) l) := by
  have q22 : ∀ (w : World) (a : Option Addr) (n c n' c' : Nat), (binOp .eql 23 (.slice a n c) (.slice none n' c')).run Tryd.prog w = .ok (.bool a.isNone) w := fun w a n c n' c' => Lib.run_eql_slice_nil w _ _ a n c n' c' Tryd.underlying23
  have H := Lib.hid h
  clear h
  cases ao with
  | none =>
    have hl0 : l = [] := by
      rcases Nat.eq_zero_or_pos l.length with h0 | h0
      · exact List.eq_nil_of_length_eq_zero h0
      · obtain ⟨b, off, hb⟩ := H.out.addr h0; cases hb
    subst hl0
    go_enter Tryd.func63, Tryd.ntmps63
    go_wp2
    go_ret
    exact ⟨_, rfl, OB.nil _ _, Below.refl _ _, ⟨fun _ => ⟨_, _, rfl⟩, fun _ => rfl⟩, ⟨_, _, _, rfl, by decide⟩⟩
  | some a =>
    go_enter Tryd.func63, Tryd.ntmps63
    go_wp2_with (at_builtin; refine wpList_appr rfl (.tmp 5) (.tmp 6) rfl w.heap.size (.slice (some ⟨w.heap.size, 0, none⟩) 0 0) [] rfl (World.ownsRow_made w #[] 0 (Nat.le_refl _) (Nat.zero_le _) rfl) _ l rfl (H.out.alloc _) ?_ ?_ ?_; (simp only [List.length_nil]; omega); (simp); intro v' w1 ho hold ha)
    go_ret
    have hob0 : OB (w.alloc (.cells #[] 5)) w.heap.size (.slice (some ⟨w.heap.size, 0, none⟩) 0 0) [] := World.ownsRow_made w #[] 0 (Nat.le_refl _) (Nat.zero_le _) rfl
    have hb := hob0.below ha (by simp)
    refine ⟨v', rfl, by simpa using ho, ((Below.refl _ w).alloc (Nat.le_refl _) _).trans hb, ⟨fun e => ?_, fun e => ?_⟩, ho.shape⟩
    · subst e
      rcases ha.lies with e | ⟨g, e, _⟩
      · simp [Value.ownBlock] at e
      · simp [Value.ownBlock] at e
    · obtain ⟨_, _, e⟩ := e
      simp at e

/-- a new Reader -/
def NewRd (w : World) (l : List UInt8) (e : Ending) (w' : World) : Prop :=
  ∃ p go, e = .returned (.pointer (some ⟨p, 0, none⟩)) ∧ w.heap.size ≤ p ∧ (∀ k, go = some k → w.heap.size ≤ k) ∧ RD w' p go l false ∧ Below w.heap.size w w'

set_option maxHeartbeats 1000000 in
theorem newreader_any {w : World} {ao : Option Addr} {n c : Nat} {l : List UInt8} (h : RB w (.slice ao n c) l) (hl : l.length ≤ 140737488355328) :
    Calls Tryd.prog 46 #[.slice ao n c] w (NewRd w l) := by
  have hc := clone_any h hl
  have Hc := Lib.hid hc
  clear hc h
  go_enter Tryd.func46, Tryd.ntmps46
  go_wp2_with fail
  refine Hc.out.mono ?_
  rintro e w1 ⟨v', rfl, hob, hb, _, ⟨ao', n', c', rfl, hm⟩⟩
  have Hob := Lib.hid hob
  have Hb := Lib.hid hb
  clear hob hb
  go_wp2
  go_ret
  refine ⟨w1.heap.size, (Value.slice ao' n' c').ownBlock, rfl, Hb.out.size, fun k hk => (Hob.out.lt hk).1, ?_, Hb.out.alloc Hb.out.size _⟩
  refine ⟨_, heap_alloc_new w1 _, (Hob.out.reads).alloc _, ⟨_, _, _, rfl, hm⟩, fun k hk => hk, fun k hk => ?_⟩
  have := (Hob.out.lt hk).2
  exact ⟨by simp; omega, by omega⟩
end Go.Proofs.YtmhklmecpbdljaaDoor
