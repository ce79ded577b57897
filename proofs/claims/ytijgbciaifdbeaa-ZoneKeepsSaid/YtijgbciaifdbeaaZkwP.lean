/- For every input tithebarn/tithebarnlaw07.ZoneKeeps returns true, and its arguments read afterwards as before. No condition. -/
import Derived.Test.YtijgbciaifdbeaaZkw
import Derived.Test.YtijgbciaifdbeaaOp7
import Derived.Test.YtijgbciaifdbeaaOpen
import Derived.Test.YtijgbciaifdbeaaLift
namespace Go.Proofs.Ytijgbciaifdbeaa.lawZoneKeeps
open Go.ChangeShapes Go.WideShapes Go.ChangeAt Go.RowKit Go.Joins
open Go.ChangeMaps (open_string shut_string)
set_option linter.unusedVariables false

theorem cellsK : Try.prog.cellsOf 26 = 3 := by kernel_rfl

set_option maxRecDepth 100000 in
theorem lifted (os : Os) (started : os.Started) (H : Type) (enc : TypeId × Value → H) :
    ReturnsInHanded {} Try.checked os 6 .any (Rows.zoneKeepsSpec.pre6 enc Try.prog Try.f6 Rows.zoneKeepsRow.domain false) (Rows.zoneKeepsSpec.post enc Try.prog Try.f6 false true false false) := by
  refine returnsInHanded_of_change (C := Try.checked) own started (by kernel_rfl) Try.func6
    (ChangeSpec.witness6 (enc := enc) (C := Try.checked) false ⟨#[], #[.agg #[.int .i64 0, .int .i64 0, .int .i64 0], .slice none 0 0], []⟩ 8 (by kernel_rfl) (by kernel_rfl) (by kernel_rfl) (by kernel_rfl)) ?_
  intro W base args ds gs before hval0 hW hcnd _
  have hval : ∀ (j : Nat) t v, Try.f6.params[j]? = some t → args[j]? = some v → Value.okWide Try.prog W .any base t v := hval0
  have hW' := hW
  obtain ⟨p, q, hA0, hV, rfl, hfz, hnd⟩ := hW
  have hA : DataW.TrodAll enc Try.prog W 0 (fun _ => true) true Try.f6.params.toList args.toList ds p := hA0
  rw [Try.params6] at hA hval
  obtain ⟨v0, vs0, d0, ds0, p0, q0, hargs, rfl, rfl, h0, r0⟩ := trodAll_cons hA
  obtain ⟨v1, vs1, d1, ds1, p1, q1, rfl, rfl, rfl, h1, r1⟩ := trodAll_cons r0
  obtain ⟨rfl, rfl, rfl⟩ := trodAll_nil r1
  obtain rfl : args = #[v0, v1] := by cases args; simp_all
  obtain ⟨rfl, rfl⟩ := trodVars_none hV
  have k0 := h0
  have lt0 : ∀ x ∈ p0, x.block < W.heap.size := by obtain ⟨m, hm⟩ := k0; exact DataW.trod_lt m _ _ _ hm
  have k1 := h1
  have lt1 : ∀ x ∈ p1, x.block < W.heap.size := by obtain ⟨m, hm⟩ := k1; exact DataW.trod_lt m _ _ _ hm
  obtain ⟨a0, b0, c0, y0, z0, x0, m0, rfl, _, _, e0, f0, g0⟩ := open_agg3 Try.underlying26 (by kernel_rfl) cellsK (hval 0 26 v0 rfl rfl) h0
  obtain ⟨u0, eu0, _, wu0⟩ := DataW.trod_int Try.underlying3 e0
  obtain ⟨s0, es0, _, ws0⟩ := DataW.trod_int Try.underlying3 f0
  obtain ⟨t0, et0, _, wt0⟩ := DataW.trod_int Try.underlying3 g0
  simp only [List.cons.injEq, and_true] at eu0 es0 et0
  subst eu0 es0 et0
  obtain ⟨a1, len1, cap1, rfl⟩ := okWide_slice Try.underlying36 (hval 1 36 v1 rfl rfl)
  obtain ⟨L1, eL1, rd1, ml1⟩ := zops_open h1
  subst eL1
  clear hA0 hval0
  have hwalk : Calls Try.prog 6 #[.agg #[.int .i64 u0, .int .i64 s0, .int .i64 t0], .slice a1 L1.length cap1] W fun e w' => e = .returned (.bool true) ∧ Below W.heap.size W w' := by
    exact keeps_walk rd1 ml1 u0 s0 t0
  refine hwalk.mono fun e W' ⟨he, bel⟩ => ?_
  subst he
  exact ⟨_, rfl, _, _, _, [], _, [], hW', trodAll_mk1 (shut_bool Try.underlying4 _), (trodAll_cons_mk (Below.trod laidOut (by kernel_rfl) (of_decide_eq_true (by kernel_rfl)) k0 bel lt0) (trodAll_cons_mk (Below.trod laidOut (by kernel_rfl) (of_decide_eq_true (by kernel_rfl)) k1 bel lt1) trodAll_mk0)), rfl, bel.frame _, fun h => by cases h⟩

theorem over : Rows.zoneKeepsRow.holds Try.pinned (OpenSpec.ofChange Rows.zoneKeepsSpec) :=
  OpenClaim.holds_of_wide 6 Try.f6 rfl rfl rfl rfl rfl rfl rfl ⟨rfl, rfl, rfl, rfl, rfl⟩ rfl rfl rfl rfl rfl (by kernel_rfl) Try.func6 (by kernel_rfl)
    (of_decide_eq_true (by kernel_rfl)) (by unfold Func.isWrapper; first | (rw [if_pos (by decide +kernel)]; kernel_rfl) | (rw [if_neg (by decide +kernel)]; exact ⟨rfl, rfl⟩))
    (fun os started H enc _ => lifted os started H enc)

theorem proved : Rows.ZoneKeepsSaid := over
end Go.Proofs.Ytijgbciaifdbeaa.lawZoneKeeps
