/- The contract of wire.Reader.Text. -/
import Derived.Test.YtmhklmecpbdljaaDoorYRdNum
namespace Go.Proofs.YtmhklmecpbdljaaDoor
open Go.RowKit
set_option linter.unusedVariables false

/-- the text at the head of some bytes, and what is left -/
def rdText (l : List UInt8) : Option (List UInt8 × List UInt8) :=
  match rdNum 9 true l with
  | some (n, r) => if n ≤ r.length then some (r.take n, r.drop n) else none
  | none => none
theorem rdText_num (m r : List UInt8) (h : m.length < 9223372036854775808) : rdText (num m.length ++ m ++ r) = some (m, r) := by
  unfold rdText
  rw [List.append_assoc, rdNum9_num h]
  simp
theorem rdText_some {l t r : List UInt8} (h : rdText l = some (t, r)) : ∃ n q, rdNum 9 true l = some (n, q) ∧ n ≤ q.length ∧ t = q.take n ∧ r = q.drop n := by
  unfold rdText at h
  cases e : rdNum 9 true l with
  | none => rw [e] at h; cases h
  | some x =>
    obtain ⟨n, q⟩ := x
    rw [e] at h
    by_cases hn : n ≤ q.length
    · simp only [if_pos hn, Option.some.injEq, Prod.mk.injEq] at h
      exact ⟨n, q, rfl, hn, h.1.symm, h.2.symm⟩
    · simp [if_neg hn] at h
theorem rdText_none {l : List UInt8} (h : rdText l = none) : rdNum 9 true l = none ∨ ∃ n q, rdNum 9 true l = some (n, q) ∧ q.length < n := by
  unfold rdText at h
  cases e : rdNum 9 true l with
  | none => exact .inl rfl
  | some x =>
    obtain ⟨n, q⟩ := x
    rw [e] at h
    by_cases hn : n ≤ q.length
    · simp [if_pos hn] at h
    · exact .inr ⟨n, q, rfl, by omega⟩

def TextYes (w : World) (p : Nat) (go : Option Nat) (t r : List UInt8) (e : Ending) (w' : World) : Prop :=
  ∃ ao c, e = .returned (.slice ao t.length c) ∧ RB w' (.slice ao t.length c) t ∧ RD w' p go r false ∧ w.grownBy w' (some p) ∧ (∀ k, (Value.slice ao t.length c).ownBlock = some k → go = some k)
def TextNo (w : World) (p : Nat) (go : Option Nat) (e : Ending) (w' : World) : Prop :=
  e = .returned (.slice none 0 0) ∧ (∃ l', RD w' p go l' true) ∧ w.grownBy w' (some p)

theorem RD.chg {F : Nat → Prop} {w w' : World} {p : Nat} {go : Option Nat} {l : List UInt8} {bad : Bool} (h : RD w p go l bad) (hc : Chg F w w') (hp : ¬ F p) (hg : ∀ k, go = some k → ¬ F k) : RD w' p go l bad :=
  h.kept hc.size fun k hk hk2 => hc.block k hk (by rcases hk2 with rfl | hk2; exact hp; exact hg k hk2)
theorem RD.alloc {w : World} {p : Nat} {go : Option Nat} {l : List UInt8} {bad : Bool} (h : RD w p go l bad) (o : Obj) : RD (w.alloc o) p go l bad := h.below ((Below.refl _ w).alloc (Nat.le_refl _) o)

set_option maxHeartbeats 1000000 in
theorem rtext_ok {w : World} {p : Nat} {go : Option Nat} {l t r : List UInt8} (h : RD w p go l false) (he : rdText l = some (t, r)) :
    Calls Tryd.prog 61 #[.pointer (some ⟨p, 0, none⟩)] w (TextYes w p go t r) := by
  obtain ⟨n, q, h1, h2, rfl, rfl⟩ := rdText_some he
  have hN := rnumber h
  rw [h1] at hN
  have HN := Lib.hid hN
  have H2 := Lib.hid h2
  clear hN h1 he h h2
  go_enter Tryd.func61, Tryd.ntmps61
  go_wp2_with fail; (with_reducible refine (HN.out).mono ?_); rintro e w1 ⟨hg1, rfl, hrd1⟩
  have hr := raw_ok hrd1 n H2.out
  have Hr := Lib.hid hr
  have Hg1 := Lib.hid hg1
  clear hr hrd1 hg1
  go_wp2_with fail; (with_reducible refine (Hr.out).mono ?_); rintro e w2 ⟨v, rfl, hrb, hrd2, hg2, ho, ⟨ao, c, rfl, hm⟩⟩
  have Hrb := Lib.hid hrb
  have Hrd := Lib.hid hrd2
  have Ho := Lib.hid ho
  clear hrb hrd2 ho
  go_wp2
  go_ret
  have e : (q.take n).length = n := by rw [List.length_take]; have := H2.out; omega
  have e2 : Value.slice ao n c = Value.slice ao (q.take n).length c := by rw [e]
  have a1 := Hrb.out
  have a2 := Ho.out
  rw [e2] at a1 a2 ⊢
  exact ⟨ao, c, rfl, a1, Hrd.out, Hg1.out.trans hg2, a2⟩

set_option maxHeartbeats 1000000 in
theorem rtext_no {w : World} {p : Nat} {go : Option Nat} {l : List UInt8} (h : RD w p go l false) (he : rdText l = none) :
    Calls Tryd.prog 61 #[.pointer (some ⟨p, 0, none⟩)] w (TextNo w p go) := by
  have hN := rnumber h
  rcases rdText_none he with h1 | ⟨n, q, h1, h2⟩
  · rw [h1] at hN
    have HN := Lib.hid hN
    clear hN h1 he h
    go_enter Tryd.func61, Tryd.ntmps61
    go_wp2_with fail; (with_reducible refine (HN.out).mono ?_); rintro e w1 ⟨hg1, rfl, l', hrd1⟩
    have hr := raw_bad hrd1 0 (.inl rfl)
    have Hr := Lib.hid hr
    clear hr hrd1
    go_wp2_with fail; (with_reducible refine (Hr.out).mono ?_); rintro e w2 ⟨rfl, hrd2, hg2⟩
    have Hrd := Lib.hid hrd2
    clear hrd2
    go_wp2
    go_ret
    exact ⟨rfl, ⟨_, Hrd.out⟩, hg1.trans hg2⟩
  · rw [h1] at hN
    have HN := Lib.hid hN
    have H2 := Lib.hid h2
    clear hN h1 he h h2
    go_enter Tryd.func61, Tryd.ntmps61
    go_wp2_with fail; (with_reducible refine (HN.out).mono ?_); rintro e w1 ⟨hg1, rfl, hrd1⟩
    have hr := raw_bad hrd1 n (.inr (.inr (by have := H2.out; omega)))
    have Hr := Lib.hid hr
    clear hr hrd1
    go_wp2_with fail; (with_reducible refine (Hr.out).mono ?_); rintro e w2 ⟨rfl, hrd2, hg2⟩
    have Hrd := Lib.hid hrd2
    clear hrd2
    go_wp2
    go_ret
    exact ⟨rfl, ⟨_, Hrd.out⟩, hg1.trans hg2⟩

theorem rtext_bad {w : World} {p : Nat} {go : Option Nat} {l : List UInt8} (h : RD w p go l true) :
    Calls Tryd.prog 61 #[.pointer (some ⟨p, 0, none⟩)] w (RawBad w p go l (.slice none 0 0)) := by
  have H := Lib.hid h
  clear h
  go_enter Tryd.func61, Tryd.ntmps61
  go_wp2_with fail; (with_reducible refine (rnumber_bad H.out).mono ?_); rintro e w1 ⟨rfl, hrd1, hg1⟩
  have hr := raw_bad hrd1 0 (.inl rfl)
  have Hr := Lib.hid hr
  clear hr hrd1
  go_wp2_with fail; (with_reducible refine (Hr.out).mono ?_); rintro e w2 ⟨rfl, hrd2, hg2⟩
  have Hrd := Lib.hid hrd2
  clear hrd2
  go_wp2
  go_ret
  exact ⟨rfl, Hrd.out, hg1.trans hg2⟩
end Go.Proofs.YtmhklmecpbdljaaDoor
