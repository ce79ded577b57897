/- The walk of IkeyOrders. -/
import Derived.Test.YtmhklmecpbdljaaDoorYRef03
import Derived.Test.YtmhklmecpbdljaaDoorYKeyOrd
import Derived.Test.YtmhklmecpbdljaaDoorYLess
namespace Go.Proofs.YtmhklmecpbdljaaDoor
open Go.RowKit
set_option linter.unusedVariables false

theorem keybytes_bad (u : ByteArray) (s k : Int) (w : World) (h : keyRight u s k = false) :
    Calls Tryd.prog 59 #[.agg #[.string u, .int .i64 s, .int .i64 k]] w fun e w' => e = .returned (.tuple #[.slice none 0 0, .int .i64 30]) ∧ Below w.heap.size w w' := by
  go_enter Tryd.func59, Tryd.ntmps59
  go_wp2_with (go_at_call 75; (with_reducible refine (check_bad u s k _ h).mono ?_); rintro e w' ⟨rfl, rfl⟩)
  go_ret2
  exact ⟨rfl, by (repeat first | exact Below.refl _ _ | refine Below.drew ?_ | refine Below.alloc ?_ (by simp <;> omega) _ | refine Below.setCell ?_ (by simp <;> omega) _)⟩

theorem cmp_neg (u v : ByteArray) (s t k l : Int) (p : Int) (h : kcmp u s k v t l = p) : kcmp v t l u s k = -p := by rw [kcmp_anti, h]

theorem ob_reads {w0 w : World} {B : Nat} {v : Value} {l : List UInt8} (h : OB w0 B v l) (hb : Below w0.heap.size w0 w) : RB w v l := (h.reads).below hb

end Go.Proofs.YtmhklmecpbdljaaDoor
