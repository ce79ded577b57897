/- What wire.Reader's methods tell, whatever state it is in: one form each. -/
import Derived.Test.YtebnllpcagkkbaaRdMore
import Derived.Test.YtebnllpcagkkbaaRdText
namespace Go.Proofs.Ytebnllpcagkkbaa
open Go.RowKit
set_option linter.unusedVariables false

/-- a Reader at block p: what is left, or none where it is bad -/
def RS (w : World) (p : Nat) (go : Option Nat) : Option (List UInt8) → Prop
  | some l => RD w p go l false
  | none => ∃ l, RD w p go l true
theorem RS.lt {w : World} {p : Nat} {go : Option Nat} {o : Option (List UInt8)} (h : RS w p go o) : p < w.heap.size := by
  cases o with
  | none => obtain ⟨l, h⟩ := h; exact h.lt
  | some l => exact RD.lt h
theorem RD.golt {w : World} {p : Nat} {go : Option Nat} {l : List UInt8} {bad : Bool} (h : RD w p go l bad) : ∀ k, go = some k → k < w.heap.size ∧ k ≠ p := by
  obtain ⟨v, _, _, _, _, h5⟩ := h; exact h5
theorem RS.golt {w : World} {p : Nat} {go : Option Nat} {o : Option (List UInt8)} (h : RS w p go o) : ∀ k, go = some k → k < w.heap.size ∧ k ≠ p := by
  cases o with
  | none => obtain ⟨l, h⟩ := h; exact h.golt
  | some l => exact RD.golt h
theorem RS.chg {F : Nat → Prop} {w w' : World} {p : Nat} {go : Option Nat} {o : Option (List UInt8)} (h : RS w p go o) (hc : Chg F w w') (hp : ¬ F p) (hg : ∀ k, go = some k → ¬ F k) : RS w' p go o := by
  cases o with
  | none => obtain ⟨l, h⟩ := h; exact ⟨l, h.chg hc hp hg⟩
  | some l => exact RD.chg h hc hp hg
theorem RS.below {w w' : World} {p : Nat} {go : Option Nat} {o : Option (List UInt8)} (h : RS w p go o) (hb : Below w.heap.size w w') : RS w' p go o := by
  cases o with
  | none => obtain ⟨l, h⟩ := h; exact ⟨l, h.below hb⟩
  | some l => exact RD.below h hb
theorem RS.alloc {w : World} {p : Nat} {go : Option Nat} {o : Option (List UInt8)} (h : RS w p go o) (x : Obj) : RS (w.alloc x) p go o := h.below ((Below.refl _ w).alloc (Nat.le_refl _) x)
theorem RS.drew {w : World} {p : Nat} {go : Option Nat} {o : Option (List UInt8)} (h : RS w p go o) : RS w.drew p go o := h

def sNum : Option (List UInt8) → Nat × Option (List UInt8)
  | none => (0, none)
  | some l => match rdNum 9 true l with
    | none => (0, none)
    | some (n, r) => (n, some r)
def sByte : Option (List UInt8) → UInt8 × Option (List UInt8)
  | some (c :: t) => (c, some t)
  | _ => (0, none)
def sText : Option (List UInt8) → List UInt8 × Option (List UInt8)
  | none => ([], none)
  | some l => match rdText l with
    | none => ([], none)
    | some (t, r) => (t, some r)
def LenOk (L : Nat) (o : Option (List UInt8)) : Prop := ∀ r, o = some r → r.length ≤ L
theorem rdNum_lt {l : List UInt8} {n : Nat} {r : List UInt8} (h : rdNum 9 true l = some (n, r)) : l = num n ++ r ∧ n < 9223372036854775808 := by
  obtain ⟨h1, h2, _⟩ := rdNum_is 9 true l n r h
  exact ⟨h1, h2⟩
theorem sNum_no {l : List UInt8} (h : rdNum 9 true l = none) : sNum (some l) = (0, none) := by unfold sNum; simp only [h]
theorem sNum_yes {l r : List UInt8} {n : Nat} (h : rdNum 9 true l = some (n, r)) : sNum (some l) = (n, some r) := by unfold sNum; simp only [h]
theorem sText_no {l : List UInt8} (h : rdText l = none) : sText (some l) = ([], none) := by unfold sText; simp only [h]
theorem sText_yes {l t r : List UInt8} (h : rdText l = some (t, r)) : sText (some l) = (t, some r) := by unfold sText; simp only [h]
theorem sNum_len {L : Nat} {o : Option (List UInt8)} (h : LenOk L o) : LenOk L (sNum o).2 := by
  cases o with
  | none => intro r hr; cases hr
  | some l =>
    intro r hr
    cases e : rdNum 9 true l with
    | none => rw [sNum_no e] at hr; cases hr
    | some x =>
      obtain ⟨n, q⟩ := x
      rw [sNum_yes e] at hr
      cases hr
      have h1 := (rdNum_lt e).1
      have h2 := h l rfl
      rw [h1, List.length_append] at h2
      omega
theorem sNum_lt (o : Option (List UInt8)) : (sNum o).1 < 9223372036854775808 := by
  cases o with
  | none => decide
  | some l =>
    cases e : rdNum 9 true l with
    | none => rw [sNum_no e]; decide
    | some x => obtain ⟨n, q⟩ := x; rw [sNum_yes e]; exact (rdNum_lt e).2
theorem sByte_len {L : Nat} {o : Option (List UInt8)} (h : LenOk L o) : LenOk L (sByte o).2 := by
  cases o with
  | none => intro r hr; cases hr
  | some l =>
    cases l with
    | nil => intro r hr; cases hr
    | cons c t =>
      intro r hr
      cases hr
      have := h _ rfl
      simp only [List.length_cons] at this
      omega
theorem rdText_len {l t r : List UInt8} (h : rdText l = some (t, r)) : t.length ≤ l.length ∧ r.length ≤ l.length := by
  obtain ⟨n, q, h1, h2, rfl, rfl⟩ := rdText_some h
  have e := (rdNum_lt h1).1
  rw [e, List.length_append]
  constructor
  · rw [List.length_take]; omega
  · rw [List.length_drop]; omega
theorem sText_len {L : Nat} {o : Option (List UInt8)} (h : LenOk L o) : LenOk L (sText o).2 ∧ (sText o).1.length ≤ L := by
  cases o with
  | none => exact ⟨fun r hr => (by cases hr), Nat.zero_le _⟩
  | some l =>
    cases e : rdText l with
    | none => rw [sText_no e]; exact ⟨fun r hr => (by cases hr), Nat.zero_le _⟩
    | some x =>
      obtain ⟨t, q⟩ := x
      obtain ⟨h1, h2⟩ := rdText_len e
      have h3 := h l rfl
      rw [sText_yes e]
      exact ⟨fun r hr => by cases hr; omega, by simp only; omega⟩

theorem snum_any {w : World} {p : Nat} {go : Option Nat} {o : Option (List UInt8)} (h : RS w p go o) :
    Calls Try.prog 47 #[.pointer (some ⟨p, 0, none⟩)] w fun e w' => e = .returned (.int .i64 ((sNum o).1 : Nat)) ∧ RS w' p go (sNum o).2 ∧ w.grownBy w' (some p) := by
  cases o with
  | none =>
    obtain ⟨l, h⟩ := h
    refine (rnumber_bad h).mono ?_
    rintro e w' ⟨rfl, h1, h2⟩
    exact ⟨rfl, ⟨_, h1⟩, h2⟩
  | some l =>
    refine (rnumber h).mono ?_
    intro e w' ho
    unfold NumOut at ho
    cases hn : rdNum 9 true l with
    | none =>
      rw [sNum_no hn]
      rw [hn] at ho
      obtain ⟨h1, h2, h3⟩ := ho
      exact ⟨h2, h3, h1⟩
    | some x =>
      obtain ⟨n, r⟩ := x
      rw [sNum_yes hn]
      rw [hn] at ho
      obtain ⟨h1, h2, h3⟩ := ho
      exact ⟨h2, h3, h1⟩
theorem sbyte_any {w : World} {p : Nat} {go : Option Nat} {o : Option (List UInt8)} (h : RS w p go o) :
    Calls Try.prog 54 #[.pointer (some ⟨p, 0, none⟩)] w fun e w' => e = .returned (.int .u8 ((sByte o).1.toNat : Int)) ∧ RS w' p go (sByte o).2 ∧ w.grownBy w' (some p) := by
  cases o with
  | none =>
    obtain ⟨l, h⟩ := h
    refine (byte_bad h (.inl rfl)).mono ?_
    rintro e w' ⟨rfl, h1, h2⟩
    exact ⟨rfl, ⟨_, h1⟩, h2⟩
  | some l =>
    cases l with
    | nil =>
      refine (byte_bad h (.inr rfl)).mono ?_
      rintro e w' ⟨rfl, h1, h2⟩
      exact ⟨rfl, ⟨_, h1⟩, h2⟩
    | cons c t =>
      refine (byte_ok h).mono ?_
      rintro e w' ⟨rfl, h1, h2⟩
      exact ⟨rfl, h1, h2⟩
theorem sbad_any {w : World} {p : Nat} {go : Option Nat} {o : Option (List UInt8)} (h : RS w p go o) :
    Calls Try.prog 48 #[.pointer (some ⟨p, 0, none⟩)] w fun e w' => e = .returned (.bool o.isNone) ∧ w = w' := by
  cases o with
  | none => obtain ⟨l, h⟩ := h; exact bad_any h
  | some l => exact bad_any (bad := false) h
end Go.Proofs.Ytebnllpcagkkbaa
