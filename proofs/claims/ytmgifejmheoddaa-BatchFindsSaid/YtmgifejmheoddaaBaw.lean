/- tithebarnlaw10.awake; ikey.Key.Check at ch. 10's place. -/
import Derived.Test.YtmgifejmheoddaaBat3
namespace Go.Proofs.Ytmgifejmheoddaa
open Go.RowKit
set_option linter.unusedVariables false

def lit10 : List OpD := [⟨1, ⟨#[97]⟩, ⟨#[120]⟩⟩, ⟨2, ⟨#[98]⟩, ⟨#[]⟩⟩]
theorem lit_right : batRight 5 lit10 = true := by decide +kernel
theorem lit_len : (batB 5 lit10).length = 10 := by decide +kernel
theorem lit_size : batSize 5 lit10 = 10 := by decide +kernel
theorem lit_last : batLast 5 lit10 = 6 := by decide +kernel
theorem lit_ops {w : World} {b : Nat} (c0 : w.cell? ⟨b, 0, none⟩ = some (.int .i64 1)) (c1 : w.cell? ⟨b, 1, none⟩ = some (.string ⟨#[97]⟩)) (c2 : w.cell? ⟨b, 2, none⟩ = some (.string ⟨#[120]⟩))
    (c3 : w.cell? ⟨b, 3, none⟩ = some (.int .i64 2)) (c4 : w.cell? ⟨b, 4, none⟩ = some (.string ⟨#[98]⟩)) (c5 : w.cell? ⟨b, 5, none⟩ = some (.string ⟨#[]⟩)) : OPs w (some ⟨b, 0, none⟩) lit10 := by
  refine ⟨fun _ => ⟨b, 0, rfl, fun i hi => ?_⟩, fun x hx => ?_⟩
  · match i, hi with
    | 0, _ => exact ⟨c0, c1, c2⟩
    | 1, _ => exact ⟨c3, c4, c5⟩
  · simp only [lit10, List.mem_cons, List.not_mem_nil, or_false] at hx
    rcases hx with rfl | rfl <;> exact ⟨by decide, by decide, by decide, by decide⟩

set_option maxRecDepth 100000 in
set_option maxHeartbeats 2000000 in
theorem awake_any (w : World) :
    Calls Try.prog 11 #[] w fun e w' => e = .returned (.bool true) ∧ Below w.heap.size w w' := by
  go_enter Try.func11, Try.ntmps11
  go_upto_region 2 with fail
  refine gen_wp (fun w' => Below w.heap.size w w' ∧ OPs w' (some ⟨w.heap.size, 0, none⟩) lit10 ∧ w'.cell? ⟨w.heap.size + 1, 0, none⟩ = some (.int .i64 5) ∧ w'.cell? ⟨w.heap.size + 1, 1, none⟩ = some (.slice (some ⟨w.heap.size, 0, none⟩) 2 2)) ?_ ?_
  · refine ⟨?_, lit_ops ?_ ?_ ?_ ?_ ?_ ?_, ?_, ?_⟩
    · (repeat first | exact Below.refl _ _ | refine Below.drew ?_ | refine Below.alloc ?_ (by simp <;> omega) _ | refine Below.setCell ?_ (by simp <;> omega) _)
    all_goals go_simp
  rintro w0 ⟨hb0, ho, c0, c1⟩
  have HO := Lib.hid ho
  have h1 : Calls Try.prog 20 #[.agg #[.int .i64 5, .slice (some ⟨w.heap.size, 0, none⟩) 2 2]] w0 _ := batbytes (c := 2) ho (by decide) 5 lit_right
  have H1 := Lib.hid h1
  have s0 := cell_next c0
  have s1 := cell_next c1
  clear h1 ho
  go_wp2_with fail; (with_reducible refine (H1.out).mono ?_); rintro e w1 ⟨v1, rfl, ho1, ⟨g, rfl⟩, hb1⟩
  clear ho1
  rw [lit_len]
  have e0 := s0 _ hb1
  have e1 := s1 _ hb1
  have h2 : Calls Try.prog 13 #[.agg #[.int .i64 5, .slice (some ⟨w.heap.size, 0, none⟩) 2 2]] w1 _ := batlast (c := 2) (HO.out.below hb1) (by decide) 5
  rw [lit_last] at h2
  have H2 := Lib.hid h2
  have HO1 := Lib.hid (HO.out.below hb1)
  clear h2
  go_wp2_with fail; (with_reducible refine (H2.out).mono ?_); rintro e w2 ⟨rfl, hb2⟩
  have B2 := bnext hb1 hb2
  have e0 := s0 _ B2
  have e1 := s1 _ B2
  have h3 : Calls Try.prog 12 #[.agg #[.int .i64 5, .slice (some ⟨w.heap.size, 0, none⟩) 2 2]] w2 _ := batsize (c := 2) (HO.out.below B2) (by decide) 5
  rw [lit_size] at h3
  have H3 := Lib.hid h3
  clear h3
  go_wp2_with fail; (with_reducible refine (H3.out).mono ?_); rintro e w3 ⟨rfl, hb3⟩
  have B3 := bnext B2 hb3
  have e0 := s0 _ B3
  have e1 := s1 _ B3
  have h4 : Calls Try.prog 14 #[.agg #[.int .i64 5, .slice (some ⟨w.heap.size, 0, none⟩) 2 2]] w3 _ := batkeys (c := 2) (HO.out.below B3) (by decide) 5 lit_right
  have H4 := Lib.hid h4
  clear h4
  go_wp2_with fail; (with_reducible refine (H4.out).mono ?_); rintro e w4 ⟨v4, rfl, ho4, hb4⟩
  obtain ⟨a4, c4, rfl, _⟩ := row_shape ho4
  have B4 := bnext B3 hb4
  have e4 : lit10.length = 2 := rfl
  rw [e4] at *
  clear ho4
  go_wp2
  go_ret
  exact ⟨rfl, hb0.trans (B4.mono hb0.size)⟩

set_option maxHeartbeats 1000000 in
theorem keycheck_ok (u : ByteArray) (s k : Int) (w : World) (h1 : 1 ≤ u.size) (h2 : u.size ≤ 64) (h3 : 0 ≤ s) (h4 : s ≤ 1099511627776) (h5 : 1 ≤ k) (h6 : k ≤ 3) :
    Calls Try.prog 15 #[.agg #[.string u, .int .i64 s, .int .i64 k]] w fun e w' => e = .returned (.int .i64 0) ∧ Below w.heap.size w w' := by
  go_enter Try.func15, Try.ntmps15
  go_wp2
  go_ret
  exact ⟨rfl, by (repeat first | exact Below.refl _ _ | refine Below.drew ?_ | refine Below.alloc ?_ (by simp <;> omega) _ | refine Below.setCell ?_ (by simp <;> omega) _)⟩
end Go.Proofs.Ytmgifejmheoddaa
