/- Contracts of tithebarnref02: Number, Text, Read; of tithebarnref01.Copy. -/
import Derived.Test.YtmhklmecpbdljaaDoorYNum
import Derived.Test.YtmhklmecpbdljaaDoorYRd
namespace Go.Proofs.YtmhklmecpbdljaaDoor
open Go.RowKit
set_option linter.unusedVariables false

theorem bvs_plus128 (m : Nat) : (#[.int .u8 ((m : Int) % 128 + 128)] : Array Value) = (bvs [UInt8.ofNat (m % 128 + 128)]).toArray := by
  have e : (UInt8.ofNat (m % 128 + 128)).toNat = m % 128 + 128 := by rw [toNat_ofNat8]; omega
  have e2 : ((m : Int) % 128 + 128) = ((m % 128 + 128 : Nat) : Int) := by omega
  simp only [bvs, bv, List.map_cons, List.map_nil, e, e2]
theorem bvs_small (m : Nat) (h : m ≤ 255) : (#[.int .u8 (m : Int)] : Array Value) = (bvs [UInt8.ofNat m]).toArray := by
  have e : (UInt8.ofNat m).toNat = m := by rw [toNat_ofNat8]; omega
  simp only [bvs, bv, List.map_cons, List.map_nil, e]

/-- bytes in new memory -/
def NewB (w : World) (l : List UInt8) (e : Ending) (w' : World) : Prop :=
  ∃ v, e = .returned v ∧ OB w' w.heap.size v l ∧ Below w.heap.size w w'

set_option maxRecDepth 100000 in
set_option maxHeartbeats 2000000 in
theorem refnumber (n : Nat) (w : World) (hn : n < 9223372036854775808) :
    Calls Tryd.prog 49 #[.int .i64 n] w (NewB w (num n)) := by
  have h9 := num_len9 hn
  go_enter Tryd.func49, Tryd.ntmps49
  go_wp2
  go_loopw [0, 3] (fun i v wr => ∃ (m : Nat) (l : List UInt8), m ≤ n ∧ i = .int .i64 m ∧ OB wr w.heap.size v l ∧ l ++ num m = num n ∧ Below w.heap.size w wr) (fun i _ _ => (intOf i).toNat)
  case atStart => exact ⟨n, [], Nat.le_refl _, rfl, OB.nil _ _, rfl, Below.refl _ _⟩
  case round =>
    obtain ⟨m, l, hm, rfl, ho, heq, hb⟩ := hrel
    have hz := hb.size
    have hll : l.length + (num m).length ≤ 9 := by
      have := congrArg List.length heq
      simp only [List.length_append] at this
      omega
    have hp1 := num_pos m
    have Ho := Lib.hid ho
    have Heq := Lib.hid heq
    have Hb := Lib.hid hb
    clear ho heq hb
    by_cases h1 : 127 < m
    · go_wp2_with (at_builtin; go_loud (refine wpList_appb rfl (.tmp 6) (.tmp 11) rfl w.heap.size u3 l rfl Ho.out _ 1 1 [UInt8.ofNat (m % 128 + 128)] rfl ?_ rfl (by decide) ?_ hz ?_); (exact bvs_plus128 m); (simp only [List.length_cons, List.length_nil]; omega); intro v1 w1 ho1 ha1)
      go_roundw
      case rel => exact ⟨m / 128, l ++ [UInt8.ofNat (m % 128 + 128)], by omega, by go_num, ho1, by rw [← Heq.out, num_big h1]; simp, Hb.out.trans (Ho.out.below ha1 hz)⟩
      case measure => simp [intOf]; omega
    · go_wp2_with (at_builtin; go_loud (refine wpList_appb rfl (.tmp 15) (.tmp 18) rfl w.heap.size u3 l rfl Ho.out _ 1 1 [UInt8.ofNat m] rfl ?_ rfl (by decide) ?_ hz ?_); (exact bvs_small m (by omega)); (simp only [List.length_cons, List.length_nil]; omega); intro v1 w1 ho1 ha1)
      go_ret
      refine ⟨v1, rfl, ?_, Hb.out.trans (Ho.out.below ha1 hz)⟩
      rw [← Heq.out, num_small (by omega)]
      exact ho1

set_option maxHeartbeats 1000000 in
theorem reftext {w : World} {ao : Option Addr} {c : Nat} {m : List UInt8} (hr : RB w (.slice ao m.length c) m) (hlen : m.length + 9 ≤ 140737488355328) :
    Calls Tryd.prog 42 #[.slice ao m.length c] w (NewB w (num m.length ++ m)) := by
  have h9 := num_len9 (n := m.length) (by omega)
  have hn := refnumber m.length w (by omega)
  have Hn := Lib.hid hn
  have Hr := Lib.hid hr
  clear hn hr
  go_enter Tryd.func42, Tryd.ntmps42
  go_wp2_with fail; (with_reducible refine (Hn.out).mono ?_); rintro e w1 ⟨v1, rfl, ho1, hb1⟩
  have Ho1 := Lib.hid ho1
  have Hr1 := Lib.hid (Hr.out.below hb1)
  clear ho1
  go_wp2_with (at_builtin; go_loud (refine wpList_appr rfl (.tmp 5) (.tmp 6) rfl w.heap.size v1 (num m.length) rfl Ho1.out _ m rfl Hr1.out ?_ hb1.size ?_); (omega); intro v2 w2 ho2 hold ha2)
  go_ret
  exact ⟨v2, rfl, ho2, hb1.trans (Ho1.out.below ha2 hb1.size)⟩

/-- what Read tells -/
def ReadOut (w : World) (l : List UInt8) (o : Option (Nat × List UInt8)) (e : Ending) (w' : World) : Prop :=
  w = w' ∧
  match o with
  | some (n, r) => e = .returned (.tuple #[.int .i64 n, .int .i64 ((l.length : Int) - r.length)])
  | none => e = .returned (.tuple #[.int .i64 0, .int .i64 (-1)])
theorem ReadOut.no {w w' : World} {l : List UInt8} {o : Option (Nat × List UInt8)} (ho : o = none) (hw : w = w') : ReadOut w l o (.returned (.tuple #[.int .i64 0, .int .i64 (-1)])) w' := by
  subst ho; exact ⟨hw, rfl⟩
theorem ReadOut.yes {w w' : World} {l : List UInt8} {o : Option (Nat × List UInt8)} {n : Nat} {r : List UInt8} {y z : Int} (ho : o = some (n, r)) (hw : w = w') (hy : y = n) (hz : z = (l.length : Int) - r.length) : ReadOut w l o (.returned (.tuple #[.int .i64 y, .int .i64 z])) w' := by
  subst ho hy hz; exact ⟨hw, rfl⟩
theorem drop_cons2 (l : List UInt8) (j : Nat) (h : j < l.length) : l.drop j = l[j] :: l.drop (j + 1) := List.drop_eq_getElem_cons h

end Go.Proofs.YtmhklmecpbdljaaDoor
