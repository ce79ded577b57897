/- law10.same of two batches that are alike. -/
import Derived.Test.YtmgifejmheoddaaOpd
namespace Go.Proofs.Ytmgifejmheoddaa
open Go.RowKit
set_option linter.unusedVariables false
set_option linter.unusedSimpArgs false

theorem opsH : Try.prog.stoodInHeld 26 = false := by kernel_rfl
theorem opsF : Try.prog.underlying 26 = some (.struct (Try.prog.fieldsOf 26)) := by kernel_rfl
theorem opsG : Try.prog.eqGuardType Try.prog.depth 26 = false := by kernel_rfl
def opeq (x y : OpD) : Bool := x.kind == y.kind && (x.key.toList == y.key.toList && x.val.toList == y.val.toList)
theorem opeq_self (x : OpD) : opeq x x = true := by simp [opeq]
theorem eqOp (x y : OpD) (w : World) : (binOp .eql 26 (.agg #[.int .i64 x.kind, .string x.key, .string x.val]) (.agg #[.int .i64 y.kind, .string y.key, .string y.val])).run Try.prog w = .ok (.bool (opeq x y)) w := by
  rw [run_eql_struct, run_equalIn_agg w _ 26 _ _ opsF opsH]
  unfold opeq
  simp [Program.fieldsOf, Try.underlying26, go_sem]
  split <;> (try split) <;> (try split) <;> simp_all
theorem neOp (x y : OpD) (w : World) : (binOp .neq 26 (.agg #[.int .i64 x.kind, .string x.key, .string x.val]) (.agg #[.int .i64 y.kind, .string y.key, .string y.val])).run Try.prog w = .ok (.bool (!opeq x y)) w := by
  rw [run_neq_struct, run_equalIn_agg w _ 26 _ _ opsF opsH]
  unfold opeq
  simp [Program.fieldsOf, Try.underlying26, go_sem]
  split <;> (try split) <;> (try split) <;> simp_all

set_option maxRecDepth 100000 in
set_option maxHeartbeats 4000000 in
theorem bsame_yes {w : World} {a a' : Option Addr} {c c' : Nat} {l : List OpD} (h : OPs w a l) (h' : OPs w a' l) (hl : l.length ≤ maxLen) (seq : Int) :
    Calls Try.prog 25 #[.agg #[.int .i64 seq, .slice a l.length c], .agg #[.int .i64 seq, .slice a' l.length c']] w fun e w' => e = .returned (.bool true) ∧ Below w.heap.size w w' := by
  have H := Lib.hid h
  have H' := Lib.hid h'
  unfold maxLen at hl
  clear h h'
  go_enter Try.func25, Try.ntmps25
  go_upto_region 1 with fail
  refine gen_wp (fun w' => Below w.heap.size w w' ∧ w'.cell? ⟨w.heap.size, 0, none⟩ = some (.int .i64 seq) ∧ w'.cell? ⟨w.heap.size, 1, none⟩ = some (.slice a l.length c) ∧ w'.cell? ⟨w.heap.size + 1, 0, none⟩ = some (.int .i64 seq) ∧ w'.cell? ⟨w.heap.size + 1, 1, none⟩ = some (.slice a' l.length c')) ?_ ?_
  · refine ⟨?_, ?_, ?_, ?_, ?_⟩
    · (repeat first | exact Below.refl _ _ | refine Below.drew ?_ | refine Below.alloc ?_ (by simp <;> omega) _ | refine Below.setCell ?_ (by simp <;> omega) _)
    all_goals go_simp
  rintro w0 ⟨hb0, c0, c1, c2, c3⟩
  have s0 := cell_next c0
  have s1 := cell_next c1
  have s2 := cell_next c2
  have s3 := cell_next c3
  go_wp2
  go_loopw [23] (fun i wr => ∃ k : Nat, k ≤ l.length ∧ i = .int .i64 k ∧ Below w0.heap.size w0 wr) (fun i _ => l.length - (intOf i).toNat)
  case atStart => exact ⟨0, Nat.zero_le _, rfl, Below.refl _ _⟩
  case round =>
    obtain ⟨k, hk, rfl, hbr⟩ := hrel
    have HB0 := Lib.hid hb0
    have BR := hb0.trans (hbr.mono hb0.size)
    by_cases hlt : k < l.length
    · obtain ⟨b, off, rfl, f0, f1, f2⟩ := H.out.cells BR k hlt
      obtain ⟨b', off', rfl, g0, g1, g2⟩ := H'.out.cells BR k hlt
      have hne := neOp l[k] l[k]
      rw [opeq_self] at hne
      generalize l[k] = x at *
      have t0 := cell_next (s0 _ hbr)
      have t1 := cell_next (s1 _ hbr)
      have t2 := cell_next (s2 _ hbr)
      have t3 := cell_next (s3 _ hbr)
      have u0 := cell_next f0
      have u1 := cell_next f1
      have u2 := cell_next f2
      have v0 := cell_next g0
      have v1 := cell_next g1
      have v2 := cell_next g2
      have Bq := bnext_grow (Below.refl wr.heap.size wr)
      clear f0 f1 f2 g0 g1 g2 s0 s1 s2 s3 c0 c1 c2 c3
      go_upto_region 6 with fail
      refine wp_region_quiet_below (by kernel_rfl) (by kernel_rfl) ?_; (repeat (go_big_quiet_step ((fail)))); refine wpQuiet_nil ?_; rintro _ ⟨pq, rfl⟩
      go_wp2
      go_roundw
      case rel => exact ⟨k + 1, by omega, by go_num, bnext hbr (Bq _ _)⟩
      case measure => simp [intOf]; omega
    · go_wp2
      go_ret
      exact ⟨rfl, BR⟩
end Go.Proofs.Ytmgifejmheoddaa
