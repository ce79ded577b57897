/- For every input tithebarn/tithebarnlaw03.IkeyApart returns true, and its arguments read afterwards as before. No condition. -/
import Derived.Test.YtpnfpgjmpcnnnaaIkApart
import Derived.Test.YtpnfpgjmpcnnnaaLift
namespace Go.Proofs.Ytpnfpgjmpcnnnaa.lawIkeyApart
open Go.ChangeShapes Go.WideShapes Go.ChangeAt Go.RowKit Go.Joins
open Go.ChangeMaps (open_string shut_string)
set_option linter.unusedVariables false

theorem cellsK : Try.prog.cellsOf 23 = 3 := by kernel_rfl

set_option maxRecDepth 100000 in
theorem lifted (os : Os) (started : os.Started) (H : Type) (enc : TypeId × Value → H) :
    ReturnsInHanded {} Try.checked os 7 .any (Rows.ikeyApartSpec.pre6 enc Try.prog Try.f7 Rows.ikeyApartRow.domain false) (Rows.ikeyApartSpec.post enc Try.prog Try.f7 false true false false) := by
  refine returnsInHanded_of_change (C := Try.checked) own started (by kernel_rfl) Try.func7
    (ChangeSpec.witness6 (enc := enc) (C := Try.checked) false ⟨#[], #[.agg #[.string ByteArray.empty, .int .i64 0, .int .i64 0], .agg #[.string ByteArray.empty, .int .i64 0, .int .i64 0], .slice none 0 0], []⟩ 8 (by kernel_rfl) (by kernel_rfl) (by kernel_rfl) (by kernel_rfl)) ?_
  intro W base args ds gs before hval0 hW hcnd _
  have hval : ∀ (j : Nat) t v, Try.f7.params[j]? = some t → args[j]? = some v → Value.okWide Try.prog W .any base t v := hval0
  have hW' := hW
  obtain ⟨p, q, hA0, hV, rfl, hfz, hnd⟩ := hW
  have hA : DataW.TrodAll enc Try.prog W 0 (fun _ => true) true Try.f7.params.toList args.toList ds p := hA0
  rw [Try.params7] at hA hval
  obtain ⟨v0, vs0, d0, ds0, p0, q0, hargs, rfl, rfl, h0, r0⟩ := trodAll_cons hA
  obtain ⟨v1, vs1, d1, ds1, p1, q1, rfl, rfl, rfl, h1, r1⟩ := trodAll_cons r0
  obtain ⟨v2, vs2, d2, ds2, p2, q2, rfl, rfl, rfl, h2, r2⟩ := trodAll_cons r1
  obtain ⟨rfl, rfl, rfl⟩ := trodAll_nil r2
  obtain rfl : args = #[v0, v1, v2] := by cases args; simp_all
  obtain ⟨rfl, rfl⟩ := trodVars_none hV
  have k0 := h0
  have lt0 : ∀ x ∈ p0, x.block < W.heap.size := by obtain ⟨m, hm⟩ := k0; exact DataW.trod_lt m _ _ _ hm
  have k1 := h1
  have lt1 : ∀ x ∈ p1, x.block < W.heap.size := by obtain ⟨m, hm⟩ := k1; exact DataW.trod_lt m _ _ _ hm
  have k2 := h2
  have lt2 : ∀ x ∈ p2, x.block < W.heap.size := by obtain ⟨m, hm⟩ := k2; exact DataW.trod_lt m _ _ _ hm
  obtain ⟨a0, b0, c0, y0, z0, x0, m0, rfl, _, _, e0, f0, g0⟩ := open_agg3 Try.underlying23 (by kernel_rfl) cellsK (hval 0 23 v0 rfl rfl) h0
  obtain ⟨u0, eu0, _, wu0⟩ := DataW.trod_string Try.underlying9 e0
  obtain ⟨s0, es0, _, ws0⟩ := DataW.trod_int Try.underlying3 f0
  obtain ⟨t0, et0, _, wt0⟩ := DataW.trod_int Try.underlying3 g0
  simp only [List.cons.injEq, and_true] at eu0 es0 et0
  subst eu0 es0 et0
  obtain ⟨a1, b1, c1, y1, z1, x1, m1, rfl, _, _, e1, f1, g1⟩ := open_agg3 Try.underlying23 (by kernel_rfl) cellsK (hval 1 23 v1 rfl rfl) h1
  obtain ⟨u1, eu1, _, wu1⟩ := DataW.trod_string Try.underlying9 e1
  obtain ⟨s1, es1, _, ws1⟩ := DataW.trod_int Try.underlying3 f1
  obtain ⟨t1, et1, _, wt1⟩ := DataW.trod_int Try.underlying3 g1
  simp only [List.cons.injEq, and_true] at eu1 es1 et1
  subst eu1 es1 et1
  obtain ⟨a2, len2, cap2, rfl⟩ := okWide_slice Try.underlying34 (hval 2 34 v2 rfl rfl)
  obtain ⟨L2, rb2, mb2⟩ := rb_open h2 (fun _ => rfl)
  have eL2 := rb2.len
  subst eL2
  clear hA0 hval0
  have hwalk : Calls Try.prog 7 #[.agg #[.string u0, .int .i64 s0, .int .i64 t0], .agg #[.string u1, .int .i64 s1, .int .i64 t1], .slice a2 L2.length cap2] W fun e w' => e = .returned (.bool true) ∧ Below W.heap.size W w' := by
    by_cases hb : u0.size ≤ 300 ∧ u1.size ≤ 300 ∧ L2.length ≤ 100
    · exact apart_yes _ _ _ _ _ _ _ _ _ _ hb.1 hb.2.1 hb.2.2 rb2
    · exact apart_no _ _ _ _ _ _ _ _ _ _ wu0 wu1 mb2 (by omega)
  refine hwalk.mono fun e W' ⟨he, bel⟩ => ?_
  subst he
  exact ⟨_, rfl, _, _, _, [], _, [], hW', trodAll_mk1 (shut_bool Try.underlying4 _), (trodAll_cons_mk (Below.trod laidOut (by kernel_rfl) (of_decide_eq_true (by kernel_rfl)) k0 bel lt0) (trodAll_cons_mk (Below.trod laidOut (by kernel_rfl) (of_decide_eq_true (by kernel_rfl)) k1 bel lt1) (trodAll_cons_mk (Below.trod laidOut (by kernel_rfl) (of_decide_eq_true (by kernel_rfl)) k2 bel lt2) trodAll_mk0))), rfl, bel.frame _, fun h => by cases h⟩

theorem over : Rows.ikeyApartRow.holds Try.pinned (OpenSpec.ofChange Rows.ikeyApartSpec) :=
  OpenClaim.holds_of_wide 7 Try.f7 rfl rfl rfl rfl rfl rfl rfl ⟨rfl, rfl, rfl, rfl, rfl⟩ rfl rfl rfl rfl rfl (by kernel_rfl) Try.func7 (by kernel_rfl)
    (of_decide_eq_true (by kernel_rfl)) (by unfold Func.isWrapper; first | (rw [if_pos (by decide +kernel)]; kernel_rfl) | (rw [if_neg (by decide +kernel)]; exact ⟨rfl, rfl⟩))
    (fun os started H enc _ => lifted os started H enc)

theorem proved : Rows.IkeyApartSaid := over
end Go.Proofs.Ytpnfpgjmpcnnnaa.lawIkeyApart
