/- Chapter 11: awake. -/
import Derived.Test.YtcbkjhbneigkaaaYMw
namespace Go.Proofs.Ytcbkjhbneigkaaa
open Go.RowKit
set_option linter.unusedVariables false
set_option linter.unusedSimpArgs false

def lit11 : List OpD := [⟨1, ⟨#[97]⟩, ⟨#[120]⟩⟩]
theorem lit11_right : batRight 1 lit11 = true := by decide +kernel
def litE : ME := ⟨⟨#[97]⟩, 1, 1, ⟨#[120]⟩⟩
theorem lit11_ops {w : World} {b : Nat} {e : TypeId} (h : w.heap[b]? = some (.cells #[.int .i64 1, .string ⟨#[97]⟩, .string ⟨#[120]⟩] e (0, 0))) : OPs w (some ⟨b, 0, none⟩) lit11 := by
  obtain ⟨c0, c1, c2, _⟩ := mcell_three h
  refine ⟨fun _ => ⟨b, 0, rfl, fun i hi => ?_⟩, fun x hx => ?_⟩
  · match i, hi with
    | 0, _ => exact ⟨c0, c1, c2⟩
  · simp only [lit11, List.mem_cons, List.not_mem_nil, or_false] at hx
    rcases hx with rfl
    exact ⟨by decide, by decide, by decide, by decide⟩
theorem lit11_bat : mbat [] lit11 1 1 = [litE] := rfl
theorem lit11_get : mget ⟨#[97]⟩ 1 [litE] = 0 := by
  have h : mhit ⟨#[97]⟩ 1 litE = true := mhit_iff.2 ⟨rfl, by decide⟩
  unfold mget
  rw [if_pos h]
theorem nil_ints (w : World) : IR w none [] := ⟨fun h => absurd h (Nat.lt_irrefl _), fun x hx => absurd hx (by simp)⟩
theorem lit11_apply {w1 W : World} {B t p g : Nat} {F : Nat → Prop} {e : TypeId} (h : TB w1 B t p F [] (-1)) (hb : Below w1.heap.size w1 W) (hg : W.heap[g]? = some (.cells #[.int .i64 1, .string ⟨#[97]⟩, .string ⟨#[120]⟩] e (0, 0))) (hge : w1.heap.size ≤ g) :
    Calls Try.prog 10 #[.pointer (some ⟨t, 0, none⟩), .agg #[.int .i64 1, .slice (some ⟨g, 0, none⟩) 1 1], .slice none 0 0] W fun e w' => e = .returned (.int .i64 0) ∧ ∃ F', TB w' B t p F' [litE] 1 ∧ Below B W w' := by
  have hW := h.below hb
  have hn : ¬ GT t F g := fun hf => by have := (h.ge g hf).2; omega
  have hl : (lit11.length) = 1 := rfl
  have := TB.apply hW (l := lit11) (D := []) (a := some ⟨g, 0, none⟩) (da := none) (c := 1) (dc := 0) (seq := 1) (fun w' hc => lit11_ops (blk_chg hg hc hn)) (fun w' _ => nil_ints w') (by decide) (by decide) lit11_right (by decide) (by decide)
  refine this.mono fun r w' ⟨h1, F', h2, _, _, h5⟩ => ⟨h1, F', ?_, h5⟩
  exact h2
set_option maxRecDepth 100000 in
set_option maxHeartbeats 4000000 in
theorem awake11 (w : World) :
    Calls Try.prog 9 #[] w fun e w' => e = .returned (.bool true) ∧ Below w.heap.size w w' := by
  go_enter Try.func9, Try.ntmps9
  go_wp2_with fail; (with_reducible refine (TB.new w).mono ?_); rintro e w1 ⟨t, p, F, rfl, hT, hb1⟩
  have HT := Lib.hid hT
  have HL1 := Lib.hid hT.last
  have HB1 := Lib.hid hb1
  clear hT hb1
  go_wp2_with fail; (with_reducible refine (HL1.out).mono ?_); rintro e w2 ⟨rfl, hb2⟩
  have HT2 := Lib.hid (HT.out.below hb2)
  have HB2 := Lib.hid (HB1.out.trans (hb2.mono HB1.out.size))
  have HAp := Lib.hid fun W g hb hg hge => lit11_apply (W := W) (g := g) (e := 27) HT2.out hb hg hge
  clear hb2 HL1
  go_wp2_with fail
  with_reducible refine (HAp.out _ _ ?ha ?hb (Nat.le_refl _)).mono ?_
  case ha => exact (Below.refl _ w2).alloc (Nat.le_refl _) _
  case hb => exact heap_alloc_new w2 _
  rintro e w3 ⟨rfl, F3, hT3, hb3⟩
  have HT3 := Lib.hid hT3
  have HB3 := Lib.hid (((HB2.out.alloc HB2.out.size _).trans hb3))
  have hga := hT3.get (by decide) ⟨#[97]⟩ 1 (by decide) (by decide) (by decide)
  have hgi := mgot_in (M := [litE]) (u := ⟨#[97]⟩) (at' := 1) (e := litE) (by rw [lit11_get]; decide) (by simp only [lit11_get]; rfl)
  rw [hgi.1, hgi.2] at hga
  unfold entV litE at hga
  have HGa := Lib.hid hga
  clear hT3 hb3 hga hgi HAp
  go_wp2_with fail; (with_reducible refine (HGa.out).mono ?_); rintro e w4 ⟨rfl, hb4⟩
  have HB4 := Lib.hid (HB3.out.trans (hb4.mono HB3.out.size))
  have hT4 := HT3.out.below hb4
  have HT4 := Lib.hid hT4
  clear hb4 hT4
  have hx := str_eq (rfl : (⟨#[120]⟩ : ByteArray) = ⟨#[120]⟩)
  go_upto_region 5 with (fail)
  refine gen_wp (fun w' => Below w4.heap.size w4 w' ∧ w'.heap[w4.heap.size]? = some (.cells #[.string ⟨#[97]⟩, .int .i64 1, .int .i64 1, .string ⟨#[120]⟩] 36 (0, 0))) ⟨(Below.refl _ w4).alloc (Nat.le_refl _) _, heap_alloc_new w4 _⟩ ?_
  rintro w5 ⟨hb5, b5⟩
  obtain ⟨x0, x1, x2, x3, _⟩ := mcell_four b5
  have HB5 := Lib.hid (HB4.out.trans (hb5.mono HB4.out.size))
  have hT5 := HT4.out.below hb5
  have HT5 := Lib.hid hT5
  have HLn := Lib.hid (hT5.len (by decide))
  clear hb5 hT5 b5
  go_wp2_with fail; (with_reducible refine (HLn.out).mono ?_); rintro e w6 ⟨rfl, hb6⟩
  have HB6 := Lib.hid (HB5.out.trans (hb6.mono HB5.out.size))
  have HLs := Lib.hid (HT5.out.below hb6).last
  clear hb6
  go_wp2_with fail; (with_reducible refine (HLs.out).mono ?_); rintro e w7 ⟨rfl, hb7⟩
  have HB7 := Lib.hid (HB6.out.trans (hb7.mono HB6.out.size))
  go_wp2
  go_ret
  exact ⟨rfl, HB7.out⟩
end Go.Proofs.Ytcbkjhbneigkaaa
