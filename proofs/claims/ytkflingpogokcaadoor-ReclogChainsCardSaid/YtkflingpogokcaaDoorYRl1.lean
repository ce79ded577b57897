/- Chapter 09: awake; ReclogFrames. -/
import Derived.Test.YtkflingpogokcaaDoorYRlT
import Derived.Test.YtkflingpogokcaaDoorYLess
import Derived.Lib.SlBytesConst
namespace Go.Proofs.YtkflingpogokcaaDoor
open Go.RowKit Go.Shelf
set_option linter.unusedVariables false
set_option linter.unusedSimpArgs false

/-- what is told is what the bytes are -/
theorem ScanIs.one {t : List UInt8} (h : t.length < 9223372036854775808) {r : List UInt8} (hr : oneP r = none) : ScanIs (frB t ++ r) [t] :=
  ⟨fun u hu => by rw [List.mem_singleton] at hu; rw [hu]; exact h, r, by simp, hr⟩
theorem ScanOut.one {w w' : World} {b t : List UInt8} {e : Ending} (h : ScanOut w b e w') (k : ScanIs b [t]) : ∃ (g c oc : Nat) (oa : Option Addr), e = .returned (.tuple #[.slice (some ⟨g, 0, none⟩) 1 c, .int .i64 ((frB t).length : Nat)]) ∧ w'.cell? ⟨g, 0, none⟩ = some (.slice oa t.length oc) ∧ OB w' w.heap.size (.slice oa t.length oc) t ∧ oc ≤ maxLen ∧ Below w.heap.size w w' := by
  obtain ⟨xs, u, h1, h2, ⟨h3, h4⟩, h5⟩ := h
  have e1 := h1.uniq k
  match xs, e1 with
  | [x], e1 =>
    obtain rfl : x.l = t := by simpa using e1
    obtain ⟨ao, c, hu, _, _, hg⟩ := row_shape h3
    obtain ⟨g, rfl, _⟩ := hg (by simp)
    subst hu
    have hc := World.ownsRow.cells h3 (g := g) rfl 0 (.slice x.ao x.l.length x.c) (by simp [rxs, RX.v])
    rw [add_none] at hc
    obtain ⟨h6, h7⟩ := h4 x (List.mem_singleton_self x)
    exact ⟨g, c, x.c, x.ao, by rw [h2]; simp [flR], hc, h6, h7, h5⟩
theorem scan_n {w : World} {ao : Option Addr} {n c : Nat} {b : List UInt8} (hT : Tab9 w) (h : RB w (.slice ao n c) b) (hl : n ≤ 100000000000) :
    Calls Tryd.prog 11 #[.slice ao n c] w (ScanOut w b) := by
  obtain rfl := h.len
  exact scan_any hT h hl
theorem frB_abc : (frB [97, 98, 99]).length = 8 := by rw [frB_len]; decide
theorem str_abc {w : World} {B oc : Nat} {oa : Option Addr} (h : OB w B (.slice oa ([97, 98, 99] : List UInt8).length oc) [97, 98, 99]) : (convert 22 9 (.slice oa 3 oc)).run Tryd.prog w = .ok (.string ⟨#[97, 98, 99]⟩) w := h.reads.string
theorem num200 : (num 200).length = 2 := by decide
theorem oneP1 : oneP [1] = none := by unfold oneP; rfl
set_option maxRecDepth 100000 in
set_option maxHeartbeats 2000000 in
theorem awake09 {w : World} (hT : Tab9 w) : Calls Tryd.prog 9 #[] w fun e w' => e = .returned (.bool true) ∧ Below w.heap.size w w' := by
  have kc := fun (w : World) (C : Array Value) (n c : Nat) => Lib.run_convert_bytes_const (P := Tryd.prog) w 22 5 C n c Tryd.underlying22 Tryd.underlying5
  have hb0 := (Below.refl w.heap.size w).alloc (Nat.le_refl _) (.cells #[.int .u8 97, .int .u8 98, .int .u8 99] 5 (3, 4))
  have hx : RB (w.alloc (.cells #[.int .u8 97, .int .u8 98, .int .u8 99] 5 (3, 4))) (.slice (some ⟨w.heap.size, 0, none⟩) 3 3) [97, 98, 99] := RB.fresh w [97, 98, 99] _ _ _ 3 3 rfl rfl (by decide)
  have hf : Calls Tryd.prog 10 #[.slice (some ⟨w.heap.size, 0, none⟩) 3 3] (w.alloc (.cells #[.int .u8 97, .int .u8 98, .int .u8 99] 5 (3, 4))) (NewB _ (frB [97, 98, 99])) := rframe (l := [97, 98, 99]) (hT.below hb0) hx (by decide)
  have HF := Lib.hid hf
  have HB0 := Lib.hid hb0
  have HT := Lib.hid hT
  have h8 := frB_abc
  have HIS := Lib.hid (ScanIs.one (t := [97, 98, 99]) (by decide) oneP1)
  have hsz : Hid (∀ W : World, Calls Tryd.prog 14 #[.int .i64 200] W fun e w' => e = .returned (.int .i64 206) ∧ W = w') := Lib.hid fun W => by
    have := rsize_any 200 W (by decide)
    rw [num200] at this
    exact this
  generalize frB [97, 98, 99] = F at *
  clear hf hb0 hx hT
  go_enter Tryd.func9, Tryd.ntmps9
  go_wp2_with fail; (with_reducible refine (HF.out).mono ?_); rintro e w1 ⟨v1, rfl, ho1, hb1⟩
  have HB1 := Lib.hid (HB0.out.trans (hb1.mono HB0.out.size))
  have HO1 := Lib.hid (ho1.mono HB0.out.size)
  obtain ⟨a1, n1, c1, rfl, hm1⟩ := ho1.shape
  obtain rfl := ho1.len
  clear ho1 hb1 kc
  have H8 := Lib.hid h8
  clear h8
  go_wp2_with (first
    | (at_builtin; (refine wpList_appb rfl (.tmp 8) (.tmp 9) rfl w.heap.size _ F rfl HO1.out #[.int .u8 1] 1 1 [1] rfl rfl rfl (by decide) ?_ HB1.out.size ?_); (have := H8.out; simp only [List.length_cons, List.length_nil]; omega); intro v2 w2 ho2 ha2; obtain ⟨a2, n2, c2, rfl, hm2⟩ := ho2.shape; obtain rfl := ho2.len; have HB2 := Lib.hid (HB1.out.trans (HO1.out.below ha2 HB1.out.size)); have HR2 : Hid (RB w2 (.slice a2 (F.length + 1) c2) (F ++ [1])) := Lib.hid (by have hr := ho2.reads; rw [List.length_append] at hr; exact hr); clear ha2 ho2)
    | (go_at_call 11; go_loud (with_reducible refine (scan_n (HT.out.below HB2.out) HR2.out (by have := H8.out; omega)).mono ?_; rintro e w3 ho3; obtain ⟨g, gc, oc, oa, rfl, k0, hob, hoc, hb3⟩ := ho3.one HIS.out; rw [frB_abc]; (try rw [H8.out]); have HB3 := Lib.hid (HB2.out.trans (hb3.mono HB2.out.size)); have hstr := str_abc hob; clear ho3 hb3 hob))
    | (go_at_call 14; go_loud (with_reducible refine (hsz.out _).mono ?_; rintro e w4 ⟨rfl, rfl⟩)))
  go_ret
  exact ⟨rfl, HB3.out⟩
end Go.Proofs.YtkflingpogokcaaDoor
