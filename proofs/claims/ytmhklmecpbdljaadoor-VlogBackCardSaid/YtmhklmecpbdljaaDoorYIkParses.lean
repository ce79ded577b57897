/- IkeyParses: its walk. -/
import Derived.Test.YtmhklmecpbdljaaDoorYParsePl
import Derived.Test.YtmhklmecpbdljaaDoorYLess
import Derived.Test.YtmhklmecpbdljaaDoorYAwake
namespace Go.Proofs.YtmhklmecpbdljaaDoor
open Go.RowKit
set_option linter.unusedVariables false

def ParseOut2 (w : World) (l : List UInt8) (e : Ending) (w' : World) : Prop :=
  Below w.heap.size w w' ∧
  ((∃ (u : ByteArray) (s k : Int), keyRight u s k = true ∧ keyBytes u.data.toList s k = l ∧ e = .returned (.tuple #[.agg #[.string u, .int .i64 s, .int .i64 k], .int .i64 0])) ∨
   ((∀ (u : ByteArray) (s k : Int), keyRight u s k = true → keyBytes u.data.toList s k ≠ l) ∧ e = .returned (.tuple #[.agg #[.string ⟨#[]⟩, .int .i64 0, .int .i64 0], .int .i64 30])))

theorem parse2 {w : World} {ao : Option Addr} {c : Nat} {l : List UInt8} (h : RB w (.slice ao l.length c) l) (hl : l.length ≤ 140737488355327) :
    Calls Tryd.prog 62 #[.slice ao l.length c] w (ParseOut2 w l) := by
  refine (parse_any h hl).mono ?_
  rintro e w' ⟨hb, ⟨u, r, a, k, h1, h2, h3, rfl⟩ | ⟨h1, rfl⟩⟩
  · exact ⟨hb, .inl ⟨_, _, _, h3, (parse_plain h1 h2).symm, rfl⟩⟩
  · refine ⟨hb, .inr ⟨fun u s k hr he => ?_, rfl⟩⟩
    subst he
    have hr' := hr
    simp only [keyRight, decide_eq_true_eq] at hr'
    obtain ⟨_, _, h3, h4, h5, h6⟩ := hr'
    obtain ⟨r, e1, e2⟩ := parse_back (u := u.data.toList) h3 h4 h5 h6
    have hf := h1 _ _ _ _ e1 e2
    have e3 : (1099511627776 - ((1099511627776 - s).toNat : Int)) = s := by omega
    have e4 : (255 - ((255 - k).toNat : Int)) = k := by omega
    rw [e3, e4] at hf
    have e5 : (⟨u.data.toList.toArray⟩ : ByteArray) = u := rfl
    rw [e5, hr] at hf
    cases hf

theorem below_of_alloc {w w' : World} {o : Obj} (h : w.alloc o = w') : Below w.heap.size w w' := h ▸ (Below.refl _ w).alloc (Nat.le_refl _) _

end Go.Proofs.YtmhklmecpbdljaaDoor
