/- Chapter 14: VlogSizes. -/
import Derived.Test.YtmhklmecpbdljaaDoorYVo2
namespace Go.Proofs.YtmhklmecpbdljaaDoor
open Go.RowKit
set_option linter.unusedVariables false
set_option linter.unusedSimpArgs false

set_option maxRecDepth 100000 in
set_option maxHeartbeats 8000000 in
theorem law14_s {w0 : World} (hT0 : Tab9 w0) (u : ByteArray) (s k : Int) (v : ByteArray) (hu : u.size ≤ maxLen) (hv : v.size ≤ maxLen) :
    Calls Tryd.prog 4 #[.agg #[.string u, .int .i64 s, .int .i64 k], .string v] w0 fun e w' => e = .returned (.bool true) ∧ Below w0.heap.size w0 w' := by
  have hum := hu
  unfold maxLen at hu hv
  obtain ⟨q0, q1, q2⟩ := cells3n (w := w0) (a := .string u) (b := .int .i64 s) (c := .int .i64 k) (T := 27)
  have HB0 : Hid (Below w0.heap.size w0 (w0.alloc (.cells #[.string u, .int .i64 s, .int .i64 k] 27))) := Lib.hid ((Below.refl _ w0).alloc (Nat.le_refl _) _)
  have Q0 := Lib.hid (cell_next q0)
  have Q1 := Lib.hid (cell_next q1)
  have Q2 := Lib.hid (cell_next q2)
  have HT := Lib.hid (hT0.below HB0.out)
  clear q0 q1 q2 hT0
  go_enter Tryd.func4, Tryd.ntmps4
  go_upto_region 1 with (fail)
  generalize w0.alloc (.cells #[.string u, .int .i64 s, .int .i64 k] 27) = w at *
  go_wp2_with fail; (with_reducible refine (device14 w).mono ?_); rintro e w1 ⟨p, F1, rfl, hD1, hb1⟩
  have HB1 := Lib.hid hb1
  have HD1 := Lib.hid hD1
  have c0 := Q0.out _ hb1
  clear hb1 hD1
  have h3 : 200 < u.size ∨ (u.size ≤ 200 ∧ 5000 < v.size) ∨ (u.size ≤ 200 ∧ v.size ≤ 5000) := by omega
  rcases h3 with h1 | ⟨h1, h2⟩ | ⟨h1, h2⟩
  · go_wp2_with fail; (with_reducible refine (awake14 (HT.out.below HB1.out)).mono ?_); rintro e w2 ⟨rfl, hb2⟩
    go_wp2
    go_ret
    exact ⟨rfl, HB0.out.trans ((HB1.out.trans (hb2.mono HB1.out.size)).mono HB0.out.size)⟩
  · go_wp2_with fail; (with_reducible refine (awake14 (HT.out.below HB1.out)).mono ?_); rintro e w2 ⟨rfl, hb2⟩
    go_wp2
    go_ret
    exact ⟨rfl, HB0.out.trans ((HB1.out.trans (hb2.mono HB1.out.size)).mono HB0.out.size)⟩
  · have c1 := Q1.out _ HB1.out
    have c2 := Q2.out _ HB1.out
    have HRr : Hid (∀ W, Calls Tryd.prog 18 #[.agg #[.string u, .int .i64 s, .int .i64 k]] W fun e w' => e = .returned (.bool (keyRight u s k)) ∧ Below W.heap.size W w') := Lib.hid fun W => refright u s k W hum
    have HRf : Hid (∀ W, Calls Tryd.prog 19 #[.agg #[.string u, .int .i64 s, .int .i64 k]] W fun e w' => e = .returned (.agg #[.string u, .int .i64 s, .int .i64 k]) ∧ Below W.heap.size W w') := Lib.hid fun W => lawref14 u s k W
    cases hr : keyRight u s k with
    | false =>
      rw [hr] at HRr
      have HS := Lib.hid (vsize_bad u s k v w1 hr)
      clear hr
      go_wp2_with fail; (with_reducible refine (HS.out).mono ?_); rintro e w2 ⟨rfl, hb2⟩
      have hb12 := HB1.out.trans (hb2.mono HB1.out.size)
      have d0 := Q0.out _ hb12
      have d1 := Q1.out _ hb12
      have d2 := Q2.out _ hb12
      go_wp2_with fail; (with_reducible refine (HRf.out _).mono ?_); rintro e w3 ⟨rfl, hb3⟩
      have hb13 := hb12.trans (hb3.mono hb12.size)
      go_wp2_with fail; (with_reducible refine (HRr.out _).mono ?_); rintro e w4 ⟨rfl, hb4⟩
      have hb14 := hb13.trans (hb4.mono hb13.size)
      go_wp2_with fail; (with_reducible refine (awake14 (HT.out.below hb14)).mono ?_); rintro e w5 ⟨rfl, hb5⟩
      go_wp2
      go_ret
      exact ⟨rfl, HB0.out.trans ((hb14.trans (hb5.mono hb14.size)).mono HB0.out.size)⟩
    | true =>
      rw [hr] at HRr
      have hrl := recB_len hr v (by omega)
      have HS := Lib.hid (vsize_ok u s k v w1 hr (by omega))
      have HRc : Hid (∀ W, Calls Tryd.prog 21 #[.agg #[.string u, .int .i64 s, .int .i64 k], .string v] W (NewB W (recB u s k v))) := Lib.hid fun W => refrecord u s k v W hr (by omega)
      have HSz : Hid (∀ W : World, Calls Tryd.prog 23 #[.int .i64 ((recB u s k v).length : Nat)] W fun e w' => e = .returned (.int .i64 ((frB (recB u s k v)).length : Nat)) ∧ W = w') := Lib.hid fun W => by
        have := rsize_any (recB u s k v).length W (by omega)
        rw [← frB_len] at this
        exact this
      have HR := Lib.hid hr
      clear hr
      obtain ⟨fn, hfn⟩ : ∃ fn, (frB (recB u s k v)).length = fn := ⟨_, rfl⟩
      obtain ⟨rn, hrn⟩ : ∃ rn, (recB u s k v).length = rn := ⟨_, rfl⟩
      rw [hfn] at HS HSz
      rw [hrn] at HSz hrl
      have HFn := Lib.hid hfn
      have HRn := Lib.hid hrn
      have hfz : fn ≤ 1000000 := by
        have h1 := frB_len (recB u s k v)
        have h9 := num_len9 (n := (recB u s k v).length) (by omega)
        omega
      clear hfn hrn
      go_wp2_with fail; (with_reducible refine (HS.out).mono ?_); rintro e w2 ⟨rfl, hb2⟩
      have hb12 := HB1.out.trans (hb2.mono HB1.out.size)
      have d0 := Q0.out _ hb12
      have d1 := Q1.out _ hb12
      have d2 := Q2.out _ hb12
      go_wp2_with fail; (with_reducible refine (HRf.out _).mono ?_); rintro e w3 ⟨rfl, hb3⟩
      have hb13 := hb12.trans (hb3.mono hb12.size)
      go_wp2_with fail; (with_reducible refine (HRr.out _).mono ?_); rintro e w4 ⟨rfl, hb4⟩
      have hb14 := hb13.trans (hb4.mono hb13.size)
      have HB4 := Lib.hid hb14
      have HD4 := Lib.hid (HD1.out.below (hb2.trans ((hb3.trans (hb4.mono hb3.size)).mono hb2.size)))
      clear hb2 hb12 hb3 hb13 hb4 hb14 HS c0 c1 c2 d0 d1 d2 HD1 HB1
      have hba := (Below.refl w4.heap.size w4).alloc (Nat.le_refl _) (.cells #[.int .i64 0] 3)
      have hnew : Calls Tryd.prog 12 #[.pointer (some ⟨p, 0, none⟩), .slice (some ⟨w4.heap.size, 0, none⟩) 1 1] (w4.alloc (.cells #[.int .i64 0] 3)) fun e w' => ∃ q F, e = .returned (.pointer (some ⟨q, 0, none⟩)) ∧ LI w' w.heap.size q p F (dv0 4 400 4) ([] ++ [0]) ∧ Below (w4.alloc (.cells #[.int .i64 0] 3)).heap.size (w4.alloc (.cells #[.int .i64 0] 3)) w' := lnew (zs := [0]) (c := 1) (HD4.out.below hba) (kz_one w4 0) (fun h => by simp at h) (by decide)
      have HNew := Lib.hid hnew
      have HBA := Lib.hid hba
      clear hnew hba
      go_wp2_with fail; (with_reducible refine (HNew.out).mono ?_); rintro e w5 ⟨q, F5, rfl, hL5, hb5⟩
      have HB5 := Lib.hid (HB4.out.trans ((HBA.out.trans (hb5.mono HBA.out.size)).mono HB4.out.size))
      have HL5 := Lib.hid hL5
      clear hb5 hL5 HNew HBA HD4 HB4
      have d0 := Q0.out _ HB5.out
      have d1 := Q1.out _ HB5.out
      have d2 := Q2.out _ HB5.out
      go_wp2_with fail; (with_reducible refine (HRf.out _).mono ?_); rintro e w6 ⟨rfl, hb6⟩
      have hb56 := HB5.out.trans (hb6.mono HB5.out.size)
      go_wp2_with fail; (with_reducible refine (HRc.out _).mono ?_); rintro e w7 ⟨v7, rfl, ho7, hb7⟩
      obtain ⟨a7, n7, c7, rfl, hm7⟩ := ho7.shape
      have hln7 := ho7.len
      rw [HRn.out] at hln7
      subst hln7
      have hb67 := hb6.trans (hb7.mono hb6.size)
      have hb57 := HB5.out.trans (hb67.mono HB5.out.size)
      clear ho7
      go_wp2_with fail; (with_reducible refine (HSz.out _).mono ?_); rintro e w8 ⟨rfl, hw8⟩
      subst hw8
      have e0 := Q0.out _ hb57
      have e1 := Q1.out _ hb57
      have e2 := Q2.out _ hb57
      have hli7 := HL5.out.below hb67
      obtain ⟨D', zz, aa, nn, er, hA, hC⟩ := (One.new (z := 0) (by decide)).put (by simp) hli7 (HT.out.below hb57) (v := v) HR.out (by omega) (by show (0 : Nat) < _; decide)
      have HC := Lib.hid hC
      have HL7 := Lib.hid hli7
      have HB7 := Lib.hid hb57
      have hA2 : (er = 0 ∧ nn = (n7 : Nat) ∧ fn ≤ 400 ∧ zpt D' 0 = (fn : Nat)) ∨ (er = 201 ∧ 400 < fn ∧ zpt D' 0 = 0) := by
        rcases hA with ⟨h1, _, _, h4, h5, h6, _⟩ | ⟨h1, _, _, _, rfl, h6⟩ | ⟨_, _, _, _, _, h5, h6⟩
        · refine .inl ⟨h1, by rw [h4, HRn.out], by rw [← HFn.out]; simpa using h5, ?_⟩
          have := h6.pt
          rw [List.nil_append, HFn.out] at this
          exact this
        · exact .inr ⟨h1, by rw [← HFn.out]; exact h6, (One.new (z := 0) (by decide)).pt⟩
        · simp only [List.length_nil] at h6; omega
      clear hb6 hb56 hb7 hb67 hb57 hli7 hC hA d0 d1 d2 HL5 HB5 HRf HRr HRc
      go_wp2_with fail; (with_reducible refine (HC.out).mono ?_); rintro e w9 ⟨rfl, ho9⟩
      have hb9 := ho9.below HL7.out.ge HL7.out.room
      obtain ⟨⟨F9, hL9, _⟩, _⟩ := ho9
      have HB9 := Lib.hid (HB7.out.trans hb9)
      have hbp := (Below.refl w9.heap.size w9).alloc (Nat.le_refl _) (.cells #[.int .i64 zz, .int .i64 aa, .int .i64 nn] 25)
      obtain ⟨p0, p1, p2⟩ := cells3n (w := w9) (a := .int .i64 zz) (b := .int .i64 aa) (c := .int .i64 nn) (T := 25)
      have HPt := Lib.hid ((hL9.below hbp).pointer 0)
      have HB10 := Lib.hid (HB9.out.trans (hbp.mono HB9.out.size))
      have HA := Lib.hid (awake14 (HT.out.below HB10.out))
      clear hb9 hL9 hbp HC HL7 e0 e1 e2
      rcases hA2 with ⟨rfl, rfl, hle, hpt⟩ | ⟨rfl, hgt, hpt⟩
      · rw [hpt] at HPt
        clear hpt
        go_wp2_with fail; (with_reducible refine (HPt.out).mono ?_); rintro e w11 ⟨rfl, hw11⟩
        subst hw11
        go_wp2_with fail; (with_reducible refine (HSz.out _).mono ?_); rintro e w11 ⟨rfl, hw11⟩
        subst hw11
        go_wp2_with fail; (with_reducible refine (HA.out).mono ?_); rintro e w12 ⟨rfl, hb12⟩
        go_wp2
        go_ret
        exact ⟨rfl, HB0.out.trans ((HB10.out.trans (hb12.mono HB10.out.size)).mono HB0.out.size)⟩
      · rw [hpt] at HPt
        clear hpt
        go_wp2_with fail; (with_reducible refine (HPt.out).mono ?_); rintro e w11 ⟨rfl, hw11⟩
        subst hw11
        go_wp2_with fail; (with_reducible refine (HA.out).mono ?_); rintro e w12 ⟨rfl, hb12⟩
        go_wp2
        go_ret
        exact ⟨rfl, HB0.out.trans ((HB10.out.trans (hb12.mono HB10.out.size)).mono HB0.out.size)⟩
end Go.Proofs.YtmhklmecpbdljaaDoor
