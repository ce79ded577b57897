/- IkeyChecks: its walk. -/
import Derived.Test.YtmhklmecpbdljaaDoorYIkParses
import Derived.Test.YtmhklmecpbdljaaDoorYRefB
namespace Go.Proofs.YtmhklmecpbdljaaDoor
open Go.RowKit
set_option linter.unusedVariables false

def ParseYes (w : World) (u : ByteArray) (s k : Int) (e : Ending) (w' : World) : Prop :=
  e = .returned (.tuple #[.agg #[.string u, .int .i64 s, .int .i64 k], .int .i64 0]) ∧ Below w.heap.size w w'

theorem parse_right {w : World} {v : Value} {u : ByteArray} {s k : Int} (hr : keyRight u s k = true) (h : RB w v (keyBytes u.data.toList s k)) (hl : (keyBytes u.data.toList s k).length ≤ 140737488355327) :
    Calls Tryd.prog 62 #[v] w (ParseYes w u s k) := by
  obtain ⟨ao, c, rfl, hc⟩ := h.shape
  refine (parse_any h hl).mono ?_
  have hr' := hr
  simp only [keyRight, decide_eq_true_eq] at hr'
  obtain ⟨_, _, h3, h4, h5, h6⟩ := hr'
  obtain ⟨r, e1, e2⟩ := parse_back (u := u.data.toList) h3 h4 h5 h6
  have e3 : (1099511627776 - ((1099511627776 - s).toNat : Int)) = s := by omega
  have e4 : (255 - ((255 - k).toNat : Int)) = k := by omega
  have e5 : (⟨u.data.toList.toArray⟩ : ByteArray) = u := rfl
  rintro e w' ⟨hb, ⟨u', r', a, k', h1, h2, h3, rfl⟩ | ⟨h1, rfl⟩⟩
  · rw [e1] at h1
    simp only [Option.some.injEq, Prod.mk.injEq] at h1
    obtain ⟨rfl, rfl⟩ := h1
    rw [e2] at h2
    simp only [Option.some.injEq, Prod.mk.injEq] at h2
    obtain ⟨rfl, rfl⟩ := h2
    exact ⟨by rw [e3, e4, e5], hb⟩
  · have hf := h1 _ _ _ _ e1 e2
    rw [e3, e4, e5, hr] at hf
    cases hf

theorem keyBytes_len (l : List UInt8) (s k : Int) : (keyBytes l s k).length ≤ 2 * l.length + 9 := by
  have := esc_le l
  simp only [keyBytes, six, List.length_append, List.length_cons, List.length_nil]
  omega

end Go.Proofs.YtmhklmecpbdljaaDoor
