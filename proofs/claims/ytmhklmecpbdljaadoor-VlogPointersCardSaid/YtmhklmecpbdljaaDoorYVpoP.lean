/- For every input tithebarn/tithebarnlaw14.VlogPointers returns true, and its arguments read afterwards as before. No condition. -/
import Derived.Test.YtmhklmecpbdljaaDoorYVp2
import Derived.Test.YtmhklmecpbdljaaDoorYOpen
import Derived.Test.YtmhklmecpbdljaaDoorYLift
import Derived.Test.YtmhklmecpbdljaaDoorYLaid9
import Derived.Test.YtmhklmecpbdljaaDoorTie
import Derived.Test.YtmhklmecpbdljaaDoorCards
import Derived.SevenTiedAt
import Derived.LaidMore
import Derived.Stop.Joined
namespace Go.Proofs.YtmhklmecpbdljaaDoor.lawVlogPointers
open Go.ChangeShapes Go.WideShapes Go.ChangeAt Go.RowKit Go.Joins
open Go.ChangeMaps (open_string shut_string)
set_option linter.unusedVariables false

theorem cellsK : Tryd.prog.cellsOf 25 = 3 := by kernel_rfl

theorem door_met (os : Os) (args : Array Value) : laidMetH Tryd.prog [("tithebarn/sum.half", Rows.laid_tithebarn_sum_half)] ((World.doorLaid Tryd.prog 400 os).forCall (fun _ _ => 0) ⟨#[], args, []⟩).memory :=
  laidMetH_of_parts3 (fuel := 8) (laidMet_of_run' 8 (by kernel_rfl) (by kernel_rfl)) (by kernel_rfl) (by kernel_rfl)
set_option maxRecDepth 100000 in
theorem lifted (os : Os) (started : os.Started) (H : Type) (enc : TypeId × Value → H) :
    ReturnsInHanded {} Tryd.checked os 6 .any (fun w args => (Rows.vlogPointersSpec.pre enc Tryd.prog Tryd.f6 [] false w args ∧ laidMetH Tryd.prog [("tithebarn/sum.half", Rows.laid_tithebarn_sum_half)] w) ∧ sizedMet enc Tryd.prog Tryd.f6 (OpenSpec.ofChange Rows.vlogPointersSpec) false w args) (Rows.vlogPointersSpec.post enc Tryd.prog Tryd.f6 false true false false) := by
  refine returnsInHanded_of_change_and (C := Tryd.checked) (X := fun w _ => laidMetH Tryd.prog [("tithebarn/sum.half", Rows.laid_tithebarn_sum_half)] w) (fun _ _ _ hh h => h.of_heap hh) own started (by kernel_rfl) Tryd.func6
    (ChangeSpec.witness_shaped (enc := enc) (C := Tryd.checked) (os := os) (X := fun w _ => laidMetH Tryd.prog [("tithebarn/sum.half", Rows.laid_tithebarn_sum_half)] w) false (World.doorLaid Tryd.prog 400 os) #[.agg #[.int .i64 0, .int .i64 0, .int .i64 0]] 8 rfl (World.shaped_of_RefB (by kernel_rfl) (by kernel_rfl)) (by kernel_rfl) (by kernel_rfl) (by kernel_rfl) (door_met os _)) ?_
  intro W base args ds gs before hval0 hW _ _ hL _
  have hT9 := tab_of_laid hL
  have hval : ∀ (j : Nat) t v, Tryd.f6.params[j]? = some t → args[j]? = some v → Value.okWide Tryd.prog W .any base t v := hval0
  have hW' := hW
  obtain ⟨p, q, hA0, hV, rfl, hfz, hnd⟩ := hW
  have hA : DataW.TrodAll enc Tryd.prog W 0 (fun _ => true) true Tryd.f6.params.toList args.toList ds p := hA0
  rw [Tryd.params6] at hA hval
  obtain ⟨v0, vs0, d0, ds0, p0, q0, hargs, rfl, rfl, h0, r0⟩ := trodAll_cons hA
  obtain ⟨rfl, rfl, rfl⟩ := trodAll_nil r0
  obtain rfl : args = #[v0] := by cases args; simp_all
  obtain ⟨rfl, rfl⟩ := trodVars_none hV
  have k0 := h0
  have lt0 : ∀ x ∈ p0, x.block < W.heap.size := by obtain ⟨m, hm⟩ := k0; exact DataW.trod_lt m _ _ _ hm
  obtain ⟨a0, b0, c0, y0, z0, x0, m0, rfl, _, _, e0, f0, g0⟩ := open_agg3 Tryd.underlying25 (by kernel_rfl) cellsK (hval 0 25 v0 rfl rfl) h0
  obtain ⟨u0, eu0, _, wu0⟩ := DataW.trod_int Tryd.underlying3 e0
  obtain ⟨s0, es0, _, ws0⟩ := DataW.trod_int Tryd.underlying3 f0
  obtain ⟨t0, et0, _, wt0⟩ := DataW.trod_int Tryd.underlying3 g0
  simp only [List.cons.injEq, and_true] at eu0 es0 et0
  subst eu0 es0 et0
  clear hA0 hval0
  have hwalk : Calls Tryd.prog 6 #[.agg #[.int .i64 u0, .int .i64 s0, .int .i64 t0]] W fun e w' => e = .returned (.bool true) ∧ Below W.heap.size W w' := by
    exact law14_po hT9 u0 s0 t0
  refine hwalk.mono fun e W' ⟨he, bel⟩ => ?_
  subst he
  exact ⟨_, rfl, _, _, _, [], _, [], hW', trodAll_mk1 (shut_bool Tryd.underlying4 _), (trodAll_cons_mk (Below.trod laidOut (by kernel_rfl) (of_decide_eq_true (by kernel_rfl)) k0 bel lt0) trodAll_mk0), rfl, bel.frame _, fun h => by cases h⟩

theorem over : Rows.vlogPointersRow.holds Tryd.pinned (OpenSpec.ofChange Rows.vlogPointersSpec) :=
  OpenClaim.holds_of_wide 6 Tryd.f6 rfl rfl rfl rfl rfl rfl rfl ⟨rfl, rfl, rfl, rfl, rfl⟩ rfl rfl rfl rfl rfl (by kernel_rfl) Tryd.func6 (by kernel_rfl)
    (of_decide_eq_true (by kernel_rfl)) (by unfold Func.isWrapper; first | (rw [if_pos (by decide +kernel)]; kernel_rfl) | (rw [if_neg (by decide +kernel)]; exact ⟨rfl, rfl⟩))
    (fun os started H enc _ => lifted os started H enc)

theorem proved : Rows.VlogPointersCardSaid :=
  Claim7.holds_tied_plain_at .later [] [.data] true (true, "7bcf3a06c32b12e869311ce5a5c93506dc34795f7f7a7adcb8afa7c2085fcac0") false
    over (fun _ h => by cases h) (by kernel_rfl) (fun _ h => by cases h) vlogPointers_row_tie rfl ⟨rfl, rfl⟩ (by kernel_rfl) rfl
    (fun f fn hf hfn => by
      obtain rfl : f = 6 := Option.some.inj ((show Tryd.prog.funcNamed "tithebarn/tithebarnlaw14.VlogPointers" = some 6 by kernel_rfl).symm.trans hf) |>.symm
      obtain rfl : fn = Tryd.f6 := (Option.some.inj (Tryd.func6.symm.trans hfn)).symm
      exact ⟨by kernel_rfl, fun j t ht => by
        rw [Tryd.params6] at ht
        have hm : t ∈ [25] := by simpa using Array.mem_of_getElem? ht
        have hall : ([25].all fun u => !Tryd.prog.wantsStandIn u) = true := by kernel_rfl
        exact (show Tryd.prog.wantsStandIn t = false by simpa using List.all_eq_true.1 hall t hm)⟩)
    (by kernel_rfl)
end Go.Proofs.YtmhklmecpbdljaaDoor.lawVlogPointers
