/- Chapter 09: a record's frame. -/
import Derived.Test.YtmhklmecpbdljaaDoorYJf
import Derived.Test.YtmhklmecpbdljaaDoorYJg
import Derived.Test.YtmhklmecpbdljaaDoorYRef2
import Derived.Test.YtmhklmecpbdljaaDoorYSize
namespace Go.Proofs.YtmhklmecpbdljaaDoor
open Go.RowKit
set_option linter.unusedVariables false
set_option linter.unusedSimpArgs false

/-- a record with its length ahead -/
def txtB (l : List UInt8) : List UInt8 := num l.length ++ l
/-- its frame -/
def frB (l : List UInt8) : List UInt8 := wordS (maskS (sumOf (txtB l))) ++ txtB l
theorem frB_len (l : List UInt8) : (frB l).length = 4 + (num l.length).length + l.length := by
  unfold frB txtB; rw [List.length_append, wordS_len, List.length_append]; omega
theorem WR.new9 (w : World) : WR (w.alloc (.cells #[.slice none 0 0, .bool false] 101)) w.heap.size w.heap.size (.slice none 0 0) [] false :=
  ⟨heap_alloc_new w _, OB.nil _ _, by simp [Value.ownBlock]⟩
theorem wr_new9 (w : World) : Below w.heap.size w (w.alloc (.cells #[.slice none 0 0, .bool false] 101)) := (Below.refl _ w).alloc (Nat.le_refl _) _
set_option maxRecDepth 100000 in
set_option maxHeartbeats 2000000 in
theorem rframe {w : World} {ao : Option Addr} {c : Nat} {l : List UInt8} (hT : Tab9 w) (h : RB w (.slice ao l.length c) l) (hl : l.length ≤ 100000000000) :
    Calls Tryd.prog 52 #[.slice ao l.length c] w (NewB w (frB l)) := by
  have hw0 := WR.new9 w
  have hb0 := wr_new9 w
  have z0 : w.heap.size ≤ (w.alloc (.cells #[.slice none 0 0, .bool false] 101)).heap.size := hb0.size
  have h9 := num_len9 (n := l.length) (by omega)
  have h1 := wtext hw0 (h.below hb0) (fun hp k hk hf => by
    have h1 := RB.lt0 h hp k hk
    rcases hf with rfl | hf
    · omega
    · simp [Value.ownBlock] at hf) (by rw [List.length_nil]; omega) z0
  rw [List.nil_append] at h1
  have hTl : (num l.length ++ l).length ≤ 100000000009 := by rw [List.length_append]; omega
  have ef : frB l = wordS (maskS (sumOf (num l.length ++ l))) ++ (num l.length ++ l) := rfl
  have H1 := Lib.hid h1
  have H0 := Lib.hid hw0
  have HB0 := Lib.hid hb0
  have Z0 := Lib.hid z0
  have HT := Lib.hid hT
  have EF := Lib.hid ef
  clear h1 hw0 hb0 z0 hT ef h
  generalize frB l = F at *
  generalize num l.length ++ l = T at *
  go_enter Tryd.func52, Tryd.ntmps52
  go_wp2_with fail; (with_reducible refine (H1.out).mono ?_); rintro e w1 ⟨rfl, v1, hw1, hc1, hl1⟩
  have hb1 : Below w.heap.size w w1 := HB0.out.trans (hc1.below (fun k hk => H0.out.ge (Nat.le_refl _) k hk) Z0.out)
  have H2 := Lib.hid (wbytes hw1 (by omega))
  have HB1 := Lib.hid hb1
  clear hw1 hc1 hl1 hb1
  go_wp2_with fail; (with_reducible refine (H2.out).mono ?_); rintro e w2 ⟨v2, rfl, ho2, ⟨g, rfl⟩, hb2⟩
  have HR2 := Lib.hid ho2.reads
  have HB2 := Lib.hid (HB1.out.trans (hb2.mono HB1.out.size))
  clear ho2 hb2
  have H3 := Lib.hid (sum_of (HT.out.below HB2.out) HR2.out (by omega))
  go_wp2_with fail; (with_reducible refine (H3.out).mono ?_); rintro e w3 ⟨rfl, hb3⟩
  have HB3 := Lib.hid (HB2.out.trans (hb3.mono HB2.out.size))
  have HR3 := Lib.hid (HR2.out.below hb3)
  clear hb3
  have H4 := Lib.hid (smask (sumOf_lt T) w3)
  go_wp2_with fail; (with_reducible refine (H4.out).mono ?_); rintro e w4 ⟨rfl, hb4⟩
  have HB4 := Lib.hid (HB3.out.trans (hb4.mono HB3.out.size))
  have HR4 := Lib.hid (HR3.out.below hb4)
  clear hb4
  have H5 := Lib.hid (sword (maskS_lt (sumOf T)) w4)
  go_wp2_with fail; (with_reducible refine (H5.out).mono ?_); rintro e w5 ⟨v5, rfl, ho5, hb5⟩
  have HB5 := Lib.hid (HB4.out.trans (hb5.mono HB4.out.size))
  have HR5 := Lib.hid (HR4.out.below hb5)
  have HO5 := Lib.hid (ho5.mono HB4.out.size)
  have hW := wordS_len (maskS (sumOf T))
  clear hb5 ho5
  generalize wordS (maskS (sumOf T)) = W at *
  go_wp2_with (at_builtin; go_loud (refine wpList_appr rfl (.tmp 15) (.tmp 16) rfl w.heap.size v5 W rfl HO5.out _ T rfl HR5.out ?_ HB5.out.size ?_); (omega); intro v6 w6 ho6 hold ha6)
  go_ret
  exact ⟨v6, rfl, by rw [EF.out]; exact ho6, HB5.out.trans (HO5.out.below ha6 HB5.out.size)⟩
theorem bits_div {c k : Nat} : ((c : Int) / (k : Int)) = ((c / k : Nat) : Int) := by omega
theorem rsize_any (n : Nat) (w : World) (hn : n ≤ 100000000000) :
    Calls Tryd.prog 23 #[.int .i64 n] w fun e w' => e = .returned (.int .i64 ((4 + (num n).length + n : Nat))) ∧ w = w' := by
  have H1 := Lib.hid (size_any n w (by omega))
  have h9 := num_len9 (n := n) (by omega)
  generalize (num n).length = k at *
  go_enter Tryd.func23, Tryd.ntmps23
  go_wp2_with fail; (with_reducible refine (H1.out).mono ?_); rintro e w1 ⟨rfl, hw⟩
  subst hw
  go_wp2
  go_ret
  exact ⟨by first | rfl | (congr 2; omega) | (go_num; done), rfl⟩
theorem rsize_neg (n : Int) (w : World) (hn : n < 0) :
    Calls Tryd.prog 23 #[.int .i64 n] w fun e w' => e = .returned (.int .i64 0) ∧ w = w' := by
  go_enter Tryd.func23, Tryd.ntmps23
  go_wp2
  go_ret
  exact ⟨rfl, rfl⟩
end Go.Proofs.YtmhklmecpbdljaaDoor
