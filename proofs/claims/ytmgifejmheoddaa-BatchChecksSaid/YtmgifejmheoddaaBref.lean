/- The contracts of law10.ref and of tithebarnref10.Right, All, Bytes. -/
import Derived.Test.YtmgifejmheoddaaBat2
import Derived.Test.YtmgifejmheoddaaOpRow
import Derived.Test.YtmgifejmheoddaaRef2
namespace Go.Proofs.Ytmgifejmheoddaa
open Go.RowKit
set_option linter.unusedVariables false
set_option linter.unusedSimpArgs false

theorem ops_of_rowT {w : World} {B : Nat} {T : TypeId} {v : Value} {l : List OpD} {n : Nat} (hn : n = l.length) (h : w.ownsRow B T 3 v n (opRow l)) (hok : ∀ x ∈ l, OpOk x) : ∃ a c, v = .slice a l.length c ∧ OPs w a l := by
  subst hn
  obtain ⟨ao, c, rfl, _, _, hs⟩ := row_shape h
  refine ⟨ao, c, rfl, fun hl => ?_, hok⟩
  obtain ⟨g, rfl, _⟩ := hs hl
  refine ⟨g, 0, rfl, fun k hk => ?_⟩
  obtain ⟨h1, h2, h3⟩ := opRow_at l k hk
  rw [Nat.zero_add]
  refine ⟨?_, ?_, ?_⟩
  · rw [World.ownsRow.cellAt h _ (by omega)]; exact h1
  · rw [World.ownsRow.cellAt h _ (by omega)]; exact h2
  · rw [World.ownsRow.cellAt h _ (by omega)]; exact h3
theorem refOpInfo : (Try.prog.info? 43).map (fun i => (i.zero, i.size, i.bytes)) = some (some (.agg #[.int .i64 0, .string ⟨#[]⟩, .string ⟨#[]⟩]), 3, 40) := by kernel_rfl
theorem opRow_take {l : List OpD} (k : Nat) (h : k < l.length) : opRow (l.take (k + 1)) = opRow (l.take k) ++ [.int .i64 l[k].kind, .string l[k].key, .string l[k].val] := by
  rw [List.take_succ_eq_append_getElem h, opRow_append]; rfl

set_option maxRecDepth 100000 in
set_option maxHeartbeats 4000000 in
theorem bref_any {w : World} {a : Option Addr} {c : Nat} {l : List OpD} (h : OPs w a l) (hl : l.length ≤ 1000) :
    Calls Try.prog 17 #[.slice a l.length c] w fun e w' => ∃ a' c', e = .returned (.slice a' l.length c') ∧ OPs w' a' l ∧ Below w.heap.size w w' := by
  have H := Lib.hid h
  have Hinf := Lib.hid refOpInfo
  clear h
  go_enter Try.func17, Try.ntmps17
  go_wp2
  go_loopw [3, 8] (fun v i wr => ∃ k : Nat, k ≤ l.length ∧ i = .int .i64 k ∧ wr.ownsRow w.heap.size 43 3 v k (opRow (l.take k)) ∧ Below w.heap.size w wr) (fun _ i _ => l.length - (intOf i).toNat)
  case atStart => exact ⟨0, Nat.zero_le _, rfl, World.ownsRow_nil _ _ _ _, Below.refl _ _⟩
  case round =>
    obtain ⟨k, hk, rfl, hown, hbr⟩ := hrel
    have Hown := Lib.hid hown
    have hz := hbr.size
    clear hown
    by_cases hlt : k < l.length
    · obtain ⟨b, off, rfl, d0, d1, d2⟩ := H.out.cells hbr k hlt
      have Hks := Lib.hid (opRow_take k hlt)
      generalize l[k] = x at *
      generalize opRow (l.take k) = kr at *
      generalize hkr1 : opRow (l.take (k + 1)) = kr1 at Hks
      have Hkr1 := Lib.hid hkr1
      clear hkr1
      obtain ⟨i0, hi, hz0, hz3, hzb⟩ := info_parts Hinf.out
      have Hi := Lib.hid hi
      have Hz0 := Lib.hid hz0
      have Hz3 := Lib.hid hz3
      have Hzb := Lib.hid hzb
      clear hi hz0 hz3 hzb
      go_wp2_with (at_builtin; go_loud (refine wpList_appN rfl (.tmp 12) (.tmp 20) 40 43 i0 (.agg #[.int .i64 0, .string ⟨#[]⟩, .string ⟨#[]⟩]) 3 40 Try.underlying40 Hi.out Hz0.out Hz3.out Hzb.out rfl (by decide) rfl w.heap.size u3 k kr rfl (World.ownsRow.alloc Hown.out _) #[.int .i64 x.kind, .string x.key, .string x.val] 1 1 (by first | rfl | (simp; done) | (simp; rfl)) rfl (by intro u hu; simp at hu; rcases hu with rfl | rfl | rfl <;> rfl) (by unfold maxLen; omega) (by omega) (by simp; omega) ?_); intro v2 w2 ho2 hold2 ha2)
      go_roundw
      case rel => exact ⟨k + 1, by omega, by go_num, by rw [Hkr1.out, Hks.out]; exact ho2, (hbr.alloc hz _).trans ((Chg.of_app ha2).below (fun q hq => (World.ownsRow.lt Hown.out q hq).1) (by simp; omega))⟩
      case measure => simp [intOf]; omega
    · obtain rfl : k = l.length := by omega
      have hown := Hown.out
      rw [List.take_of_length_le (Nat.le_refl _)] at hown
      obtain ⟨a', c', rfl, hT⟩ := ops_of_rowT rfl hown H.out.2
      have HT := Lib.hid hT
      clear hT hown
      go_wp2
      go_ret
      exact ⟨_, _, rfl, HT.out, hbr⟩

theorem ret_bool {a b : Bool} (h : a = b) : Ending.returned (.bool a) = .returned (.bool b) := by rw [h]
set_option maxHeartbeats 1000000 in
theorem refop (x : OpD) (w : World) (hx : OpOk x) (z : Bool) (hz : opRight x = z) :
    Calls Try.prog 19 #[.agg #[.int .i64 x.kind, .string x.key, .string x.val]] w fun e w' => e = .returned (.bool z) ∧ Below w.heap.size w w' := by
  obtain ⟨h1, h2, h3, h4⟩ := hx
  unfold maxLen at h3 h4
  have Hz := Lib.hid hz
  clear hz
  have hve := Strs.isEmpty_eq x.val
  by_cases hv : x.val.size = 0
  · rw [decide_eq_true hv] at hve
    by_cases hk1 : x.kind = 1
    · have hk12 : (x.kind == 1) = true := by rw [beq_iff_eq]; exact hk1
      by_cases hk : x.kind = 2
      · have hk2 : (x.kind == 2) = true := by rw [beq_iff_eq]; exact hk
        have Hk := Lib.hid hk
        have Hk1 := Lib.hid hk1
        have Hv := Lib.hid hv
        clear hk hv hk1
        go_enter Try.func19, Try.ntmps19
        go_wp2
        all_goals
          go_ret
          have hk := Hk.out
          have hk1 := Hk1.out
          have hv := Hv.out
          refine ⟨ret_bool ?_, by (repeat first | exact Below.refl _ _ | refine Below.drew ?_ | refine Below.alloc ?_ (by simp <;> omega) _ | refine Below.setCell ?_ (by simp <;> omega) _)⟩
          rw [← Hz.out]
          unfold opRight
          first
            | (symm; rw [decide_eq_false_iff_not]; omega)
            | (symm; rw [decide_eq_true_eq]; omega)
            | (rw [decide_eq_decide]; omega)
            | (simp; omega)
      · have hk2 : (x.kind == 2) = false := by rw [beq_eq_false_iff_ne]; exact hk
        have Hk := Lib.hid hk
        have Hk1 := Lib.hid hk1
        have Hv := Lib.hid hv
        clear hk hv hk1
        go_enter Try.func19, Try.ntmps19
        go_wp2
        all_goals
          go_ret
          have hk := Hk.out
          have hk1 := Hk1.out
          have hv := Hv.out
          refine ⟨ret_bool ?_, by (repeat first | exact Below.refl _ _ | refine Below.drew ?_ | refine Below.alloc ?_ (by simp <;> omega) _ | refine Below.setCell ?_ (by simp <;> omega) _)⟩
          rw [← Hz.out]
          unfold opRight
          first
            | (symm; rw [decide_eq_false_iff_not]; omega)
            | (symm; rw [decide_eq_true_eq]; omega)
            | (rw [decide_eq_decide]; omega)
            | (simp; omega)
    · have hk12 : (x.kind == 1) = false := by rw [beq_eq_false_iff_ne]; exact hk1
      by_cases hk : x.kind = 2
      · have hk2 : (x.kind == 2) = true := by rw [beq_iff_eq]; exact hk
        have Hk := Lib.hid hk
        have Hk1 := Lib.hid hk1
        have Hv := Lib.hid hv
        clear hk hv hk1
        go_enter Try.func19, Try.ntmps19
        go_wp2
        all_goals
          go_ret
          have hk := Hk.out
          have hk1 := Hk1.out
          have hv := Hv.out
          refine ⟨ret_bool ?_, by (repeat first | exact Below.refl _ _ | refine Below.drew ?_ | refine Below.alloc ?_ (by simp <;> omega) _ | refine Below.setCell ?_ (by simp <;> omega) _)⟩
          rw [← Hz.out]
          unfold opRight
          first
            | (symm; rw [decide_eq_false_iff_not]; omega)
            | (symm; rw [decide_eq_true_eq]; omega)
            | (rw [decide_eq_decide]; omega)
            | (simp; omega)
      · have hk2 : (x.kind == 2) = false := by rw [beq_eq_false_iff_ne]; exact hk
        have Hk := Lib.hid hk
        have Hk1 := Lib.hid hk1
        have Hv := Lib.hid hv
        clear hk hv hk1
        go_enter Try.func19, Try.ntmps19
        go_wp2
        all_goals
          go_ret
          have hk := Hk.out
          have hk1 := Hk1.out
          have hv := Hv.out
          refine ⟨ret_bool ?_, by (repeat first | exact Below.refl _ _ | refine Below.drew ?_ | refine Below.alloc ?_ (by simp <;> omega) _ | refine Below.setCell ?_ (by simp <;> omega) _)⟩
          rw [← Hz.out]
          unfold opRight
          first
            | (symm; rw [decide_eq_false_iff_not]; omega)
            | (symm; rw [decide_eq_true_eq]; omega)
            | (rw [decide_eq_decide]; omega)
            | (simp; omega)
  · rw [decide_eq_false hv] at hve
    by_cases hk1 : x.kind = 1
    · have hk12 : (x.kind == 1) = true := by rw [beq_iff_eq]; exact hk1
      by_cases hk : x.kind = 2
      · have hk2 : (x.kind == 2) = true := by rw [beq_iff_eq]; exact hk
        have Hk := Lib.hid hk
        have Hk1 := Lib.hid hk1
        have Hv := Lib.hid hv
        clear hk hv hk1
        go_enter Try.func19, Try.ntmps19
        go_wp2
        all_goals
          go_ret
          have hk := Hk.out
          have hk1 := Hk1.out
          have hv := Hv.out
          refine ⟨ret_bool ?_, by (repeat first | exact Below.refl _ _ | refine Below.drew ?_ | refine Below.alloc ?_ (by simp <;> omega) _ | refine Below.setCell ?_ (by simp <;> omega) _)⟩
          rw [← Hz.out]
          unfold opRight
          first
            | (symm; rw [decide_eq_false_iff_not]; omega)
            | (symm; rw [decide_eq_true_eq]; omega)
            | (rw [decide_eq_decide]; omega)
            | (simp; omega)
      · have hk2 : (x.kind == 2) = false := by rw [beq_eq_false_iff_ne]; exact hk
        have Hk := Lib.hid hk
        have Hk1 := Lib.hid hk1
        have Hv := Lib.hid hv
        clear hk hv hk1
        go_enter Try.func19, Try.ntmps19
        go_wp2
        all_goals
          go_ret
          have hk := Hk.out
          have hk1 := Hk1.out
          have hv := Hv.out
          refine ⟨ret_bool ?_, by (repeat first | exact Below.refl _ _ | refine Below.drew ?_ | refine Below.alloc ?_ (by simp <;> omega) _ | refine Below.setCell ?_ (by simp <;> omega) _)⟩
          rw [← Hz.out]
          unfold opRight
          first
            | (symm; rw [decide_eq_false_iff_not]; omega)
            | (symm; rw [decide_eq_true_eq]; omega)
            | (rw [decide_eq_decide]; omega)
            | (simp; omega)
    · have hk12 : (x.kind == 1) = false := by rw [beq_eq_false_iff_ne]; exact hk1
      by_cases hk : x.kind = 2
      · have hk2 : (x.kind == 2) = true := by rw [beq_iff_eq]; exact hk
        have Hk := Lib.hid hk
        have Hk1 := Lib.hid hk1
        have Hv := Lib.hid hv
        clear hk hv hk1
        go_enter Try.func19, Try.ntmps19
        go_wp2
        all_goals
          go_ret
          have hk := Hk.out
          have hk1 := Hk1.out
          have hv := Hv.out
          refine ⟨ret_bool ?_, by (repeat first | exact Below.refl _ _ | refine Below.drew ?_ | refine Below.alloc ?_ (by simp <;> omega) _ | refine Below.setCell ?_ (by simp <;> omega) _)⟩
          rw [← Hz.out]
          unfold opRight
          first
            | (symm; rw [decide_eq_false_iff_not]; omega)
            | (symm; rw [decide_eq_true_eq]; omega)
            | (rw [decide_eq_decide]; omega)
            | (simp; omega)
      · have hk2 : (x.kind == 2) = false := by rw [beq_eq_false_iff_ne]; exact hk
        have Hk := Lib.hid hk
        have Hk1 := Lib.hid hk1
        have Hv := Lib.hid hv
        clear hk hv hk1
        go_enter Try.func19, Try.ntmps19
        go_wp2
        all_goals
          go_ret
          have hk := Hk.out
          have hk1 := Hk1.out
          have hv := Hv.out
          refine ⟨ret_bool ?_, by (repeat first | exact Below.refl _ _ | refine Below.drew ?_ | refine Below.alloc ?_ (by simp <;> omega) _ | refine Below.setCell ?_ (by simp <;> omega) _)⟩
          rw [← Hz.out]
          unfold opRight
          first
            | (symm; rw [decide_eq_false_iff_not]; omega)
            | (symm; rw [decide_eq_true_eq]; omega)
            | (rw [decide_eq_decide]; omega)
            | (simp; omega)
end Go.Proofs.Ytmgifejmheoddaa
