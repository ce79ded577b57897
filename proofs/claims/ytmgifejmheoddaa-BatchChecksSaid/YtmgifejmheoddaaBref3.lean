/- The contracts of tithebarnref10.All and Bytes. -/
import Derived.Test.YtmgifejmheoddaaBref
namespace Go.Proofs.Ytmgifejmheoddaa
open Go.RowKit
set_option linter.unusedVariables false
set_option linter.unusedSimpArgs false

set_option maxRecDepth 100000 in
set_option maxHeartbeats 4000000 in
theorem refall {w : World} {a : Option Addr} {c : Nat} {l : List OpD} (h : OPs w a l) (hl : l.length ≤ maxLen) (seq : Int) (hq1 : -9223372036854775808 ≤ seq) (hq2 : seq ≤ 9223372036854775807) (z : Bool) (hz : batRight seq l = z) :
    Calls Try.prog 21 #[.int .i64 seq, .slice a l.length c] w fun e w' => e = .returned (.bool z) ∧ Below w.heap.size w w' := by
  unfold maxLen at hl
  have H := Lib.hid h
  have Hz := Lib.hid hz
  clear h hz
  by_cases hR : 1 ≤ l.length ∧ l.length ≤ 64 ∧ 0 ≤ seq ∧ seq ≤ 1099511627776 - l.length
  case neg =>
    have hz2 : z = false := by
      rw [← Hz.out]; unfold batRight; rw [decide_eq_false hR]; rfl
    subst hz2
    have hc : (l.length : Int) < 1 ∨ ((1 : Int) ≤ l.length ∧ (64 : Int) < l.length) ∨ ((1 : Int) ≤ l.length ∧ (l.length : Int) ≤ 64 ∧ seq < 0) ∨ ((1 : Int) ≤ l.length ∧ (l.length : Int) ≤ 64 ∧ 0 ≤ seq ∧ 1099511627776 - (l.length : Int) < seq) := by omega
    clear hR
    rcases hc with h1 | ⟨h1, h2⟩ | ⟨h1, h2, h3⟩ | ⟨h1, h2, h3, h4⟩
    all_goals
      go_enter Try.func21, Try.ntmps21
      go_wp2
      go_ret
      exact ⟨rfl, Below.refl _ _⟩
  case pos =>
    obtain ⟨h1, h2, h3, h4⟩ := hR
    have Hz2 : Hid ((!(l.any fun x => !opRight x)) = z) := Lib.hid (by
      rw [← Hz.out]; unfold batRight; rw [decide_eq_true ⟨h1, h2, h3, h4⟩]; rfl)
    clear Hz
    go_enter Try.func21, Try.ntmps21
    go_wp2
    go_loopw [5] (fun i wr => ∃ k : Nat, k ≤ l.length ∧ i = .int .i64 k ∧ (∀ (j : Nat) (hj : j < l.length), j < k → opRight l[j] = true) ∧ Below w.heap.size w wr) (fun i _ => l.length - (intOf i).toNat)
    case atStart => exact ⟨0, Nat.zero_le _, rfl, fun j _ h => by omega, Below.refl _ _⟩
    case round =>
      obtain ⟨k, hk, rfl, hall, hb⟩ := hrel
      have Hall := Lib.hid hall
      clear hall
      by_cases hlt : k < l.length
      · obtain ⟨b, off, rfl, d0, d1, d2⟩ := H.out.cells hb k hlt
        have hok := H.out.2 _ (List.getElem_mem hlt)
        cases hr : opRight l[k] with
        | true =>
          have Hx : Hid (∀ (j : Nat) (hj : j < l.length), j < k + 1 → opRight l[j] = true) := Lib.hid fun j hj hjk => by
            by_cases e : j = k
            · subst e; exact hr
            · exact Hall.out j hj (by omega)
          have hc := refop l[k]
          have Hc : Hid (∀ w, Calls Try.prog 19 #[.agg #[.int .i64 l[k].kind, .string l[k].key, .string l[k].val]] w fun e w' => e = .returned (.bool true) ∧ Below w.heap.size w w') := Lib.hid fun w => hc w hok true hr
          clear hr hok hc
          generalize l[k] = x at *
          go_wp2_with fail; (with_reducible refine (Hc.out _).mono ?_); rintro e w1 ⟨rfl, hb1⟩
          have B1 := bnext hb hb1
          go_wp2
          go_roundw
          case rel => exact ⟨k + 1, by omega, by go_num, Hx.out, B1⟩
          case measure => simp [intOf]; omega
        | false =>
          have hzf : z = false := by
            rw [← Hz2.out, List.any_eq_true.2 ⟨_, List.getElem_mem hlt, by rw [hr]; rfl⟩]; rfl
          subst hzf
          have hc := refop l[k]
          have Hc : Hid (∀ w, Calls Try.prog 19 #[.agg #[.int .i64 l[k].kind, .string l[k].key, .string l[k].val]] w fun e w' => e = .returned (.bool false) ∧ Below w.heap.size w w') := Lib.hid fun w => hc w hok false hr
          clear hr hok hc
          generalize l[k] = x at *
          go_wp2_with fail; (with_reducible refine (Hc.out _).mono ?_); rintro e w1 ⟨rfl, hb1⟩
          have B1 := bnext hb hb1
          go_wp2
          go_ret
          exact ⟨rfl, B1⟩
      · have hzt : z = true := by
          rw [← Hz2.out]
          have : l.any (fun x => !opRight x) = false := by
            rw [List.any_eq_false]
            intro x hx
            obtain ⟨j, hj, rfl⟩ := List.getElem_of_mem hx
            rw [Hall.out j hj (by omega)]; decide
          rw [this]; rfl
        subst hzt
        go_wp2
        go_ret
        exact ⟨rfl, hb⟩

/-- Text of a string's bytes, made just before -/
theorem reftextS (u : ByteArray) (hu : u.size ≤ 5000) (w : World) (cap : Nat) (fr : Nat × Nat) (hc : u.size ≤ cap) :
    Calls Try.prog 34 #[.slice (some ⟨w.heap.size, 0, none⟩) u.size cap] (w.alloc (.cells (bytesRow u cap) 5 fr)).drew (NewB (w.alloc (.cells (bytesRow u cap) 5 fr)).drew (num u.size ++ u.data.toList)) := by
  have hdl := dataLen u
  have hr : RB (w.alloc (.cells (bytesRow u cap) 5 fr)).drew (.slice (some ⟨w.heap.size, 0, none⟩) u.data.toList.length cap) u.data.toList := by
    rw [hdl]; exact rb_bytesRow w u cap _ fr hc
  have := reftext hr (by rw [hdl]; omega)
  rw [hdl] at this
  exact this

set_option maxRecDepth 100000 in
set_option maxHeartbeats 4000000 in
theorem refbytes10 {w : World} {a : Option Addr} {c : Nat} {l : List OpD} (h : OPs w a l) (hl : l.length ≤ maxLen) (seq : Int) (hr : batRight seq l = true) :
    Calls Try.prog 23 #[.int .i64 seq, .slice a l.length c] w (NewB w (batB seq l)) := by
  have H := Lib.hid h
  obtain ⟨hall, h1, h2, h3, h4⟩ := batRight_all hr
  have Hall := Lib.hid hall
  obtain ⟨sq, rfl⟩ := Int.eq_ofNat_of_zero_le h3
  have hn1 := num_len9 (n := sq) (by omega)
  have hn2 := num_len9 (n := l.length) (by omega)
  have HT : Hid (∀ T, num sq ++ num l.length ++ opsB l = T → batB sq l = T) := Lib.hid fun T e => by unfold batB; rw [Int.toNat_natCast]; exact e
  clear h hr hall
  have r1 := refnumber sq
  have R1 : Hid (∀ w, Calls Try.prog 33 #[.int .i64 sq] w (NewB w (num sq))) := Lib.hid fun w => r1 w (by omega)
  have r2 := refnumber l.length
  have R2 : Hid (∀ w, Calls Try.prog 33 #[.int .i64 l.length] w (NewB w (num l.length))) := Lib.hid fun w => r2 w (by omega)
  clear r1 r2
  go_enter Try.func23, Try.ntmps23
  go_wp2_with fail; (with_reducible refine (R1.out _).mono ?_); rintro e w1 ⟨v1, rfl, ho1, hb1⟩
  have Ho1 := Lib.hid ho1
  clear ho1
  go_wp2_with fail; (with_reducible refine (R2.out _).mono ?_); rintro e w2 ⟨v2, rfl, ho2, hb2⟩
  have B2 := bnext hb1 hb2
  have Ho12 := Lib.hid (Ho1.out.past hb2 (Nat.le_refl _))
  have Hr2 := Lib.hid ho2.reads
  clear ho2 Ho1
  go_wp2_with (at_builtin; go_loud (refine wpList_appr rfl (.tmp 8) (.tmp 11) rfl w.heap.size v1 (num sq) rfl Ho12.out _ (num l.length) rfl Hr2.out ?_ B2.size ?_); (omega); intro v3 w3 ho3 hold3 ha3)
  have B3 := B2.trans (Ho12.out.below ha3 B2.size)
  have Ho3 := Lib.hid ho3
  have HB3 := Lib.hid B3
  clear ho3 hold3 ha3 Ho12 Hr2
  go_loopw [5, 6] (fun v i wr => ∃ k : Nat, k ≤ l.length ∧ i = .int .i64 k ∧ OB wr w.heap.size v (num sq ++ num l.length ++ opsB (l.take k)) ∧ Below w.heap.size w wr) (fun _ i _ => l.length - (intOf i).toNat)
  case atStart => exact ⟨0, Nat.zero_le _, rfl, by simpa [opsB] using Ho3.out, HB3.out⟩
  case round =>
    obtain ⟨k, hk, rfl, hown, hbr⟩ := hrel
    have Hown := Lib.hid hown
    have hz := hbr.size
    have hol := opsB_len l Hall.out k hk
    have Hal : Hid ((num sq ++ num l.length ++ opsB (l.take k)).length ≤ 300000) := Lib.hid (by simp only [List.length_append]; omega)
    clear hown hol
    by_cases hlt : k < l.length
    · obtain ⟨b, off, rfl, d0, d1, d2⟩ := H.out.cells (Below.refl _ w) k hlt
      have hxr := Hall.out _ (List.getElem_mem hlt)
      have Hsn := Lib.hid (opsB_snoc l k hlt)
      generalize hA : num sq ++ num l.length ++ opsB (l.take k) = A at *
      have HA := Lib.hid hA
      have hAl := Hal.out
      clear hA Hal
      generalize l[k] = x at *
      unfold opRight at hxr
      simp only [decide_eq_true_eq] at hxr
      obtain ⟨k1, k2, k3, k4, k5, k6⟩ := hxr
      have hkey : x.key.size ≤ 5000 := by omega
      have hval : x.val.size ≤ 5000 := by omega
      have hk9 := num_len9 (n := x.key.size) (by omega)
      have hv9 := num_len9 (n := x.val.size) (by omega)
      have lk := dataLen x.key
      have lv := dataLen x.val
      have Lkv := Lib.hid (And.intro lk lv)
      have t0 := cell_next d0
      have t1 := cell_next d1
      have t2 := cell_next d2
      clear k6 lk lv
      have hcK := fun (w : World) => run_bytes_of_string (P := Try.prog) w 9 44 5 x.key Try.underlying9 Try.underlying44 Try.underlying5
      have hcV := fun (w : World) => run_bytes_of_string (P := Try.prog) w 9 44 5 x.val Try.underlying9 Try.underlying44 Try.underlying5
      have hbv : (#[.int .u8 x.kind] : Array Value) = (bvs [UInt8.ofNat (x.kind % 256).toNat]).toArray := by
        have := bvs_lowN x.kind
        rw [show x.kind % 256 = x.kind by omega] at this ⊢
        exact this
      have hbv1 : [UInt8.ofNat (x.kind % 256).toNat].length = 1 := rfl
      generalize hb0 : [UInt8.ofNat (x.kind % 256).toNat] = b0 at hbv hbv1
      have Hb0 := Lib.hid hb0
      have Hbv := Lib.hid hbv
      have f0 := t0 _ hbr
      clear hb0 d0 d1 d2 hbv
      go_upto_region 6 with (at_builtin; go_loud (refine wpList_appb rfl (.tmp 19) (.tmp 26) rfl w.heap.size u5 A rfl Hown.out _ 1 1 b0 rfl Hbv.out hbv1.symm (by decide) ?_ hz ?_); (omega); intro v4 w4 ho4 ha4)
      have B4 := hbr.trans (Hown.out.below ha4 hz)
      have Ho4 := Lib.hid ho4
      have f1 := t1 _ B4
      clear ho4 ha4 f0 Hown
      go_wp2_with fail; (with_reducible refine (reftextS x.key hkey _ _ _ (grownCap_ge _ _ _ _)).mono ?_); rintro e w5 ⟨v5, rfl, ho5, hb5⟩
      have hb45 : Below w4.heap.size w4 w5 := ((Below.refl _ w4).alloc (Nat.le_refl _) _).drew.trans (hb5.mono (by simp))
      have B5 := bnext B4 hb45
      have Ho45 := Lib.hid (Ho4.out.past hb45 (Nat.le_refl _))
      have Hr5 := Lib.hid ho5.reads
      have hl5 : (num x.key.size ++ x.key.data.toList).length ≤ 5009 := by rw [List.length_append, Lkv.out.1]; omega
      have hl4 : (A ++ b0).length ≤ 300001 := by rw [List.length_append]; omega
      generalize hK : num x.key.size ++ x.key.data.toList = K1 at *
      have HK := Lib.hid hK
      clear ho5 hb5 hb45 Ho4 f1 hK
      go_upto_region 7 with (at_builtin; go_loud (refine wpList_appr rfl (.tmp 28) (.tmp 35) rfl w.heap.size v4 (A ++ b0) rfl Ho45.out _ K1 rfl Hr5.out ?_ B5.size ?_); (omega); intro v6 w6 ho6 hold6 ha6)
      have B6 := B5.trans (Ho45.out.below ha6 B5.size)
      have Ho6 := Lib.hid ho6
      have f0 := t0 _ B6
      clear ho6 hold6 ha6 Ho45 Hr5
      by_cases hk1 : x.kind = 1
      case neg =>
        have Hfin : Hid (opsB (l.take (k + 1)) = opsB (l.take k) ++ (b0 ++ K1)) := Lib.hid (by
          rw [Hsn.out]; unfold opB; rw [if_neg hk1, List.append_nil, HK.out, ← Hb0.out]; rfl)
        go_wp2
        go_roundw
        case rel => exact ⟨k + 1, by omega, by go_num, by rw [Hfin.out, ← List.append_assoc, HA.out, ← List.append_assoc]; exact Ho6.out, B6⟩
        case measure => simp [intOf]; omega
      case pos =>
        have Hfin : Hid (opsB (l.take (k + 1)) = opsB (l.take k) ++ (b0 ++ K1 ++ (num x.val.size ++ x.val.data.toList))) := Lib.hid (by
          rw [Hsn.out]; unfold opB; rw [if_pos hk1, HK.out, ← Hb0.out]; rfl)
        go_upto_region 8 with fail
        have f2 := t2 _ B6
        clear f0
        go_wp2_with fail; (with_reducible refine (reftextS x.val hval _ _ _ (grownCap_ge _ _ _ _)).mono ?_); rintro e w7 ⟨v7, rfl, ho7, hb7⟩
        have hb67 : Below w6.heap.size w6 w7 := ((Below.refl _ w6).alloc (Nat.le_refl _) _).drew.trans (hb7.mono (by simp))
        have B7 := bnext B6 hb67
        have Ho67 := Lib.hid (Ho6.out.past hb67 (Nat.le_refl _))
        have Hr7 := Lib.hid ho7.reads
        have hl7 : (num x.val.size ++ x.val.data.toList).length ≤ 5009 := by rw [List.length_append, Lkv.out.2]; omega
        have hl6 : (A ++ b0 ++ K1).length ≤ 305010 := by rw [List.length_append]; omega
        generalize hV : num x.val.size ++ x.val.data.toList = V1 at *
        have HV := Lib.hid hV
        clear ho7 hb7 hb67 Ho6 f2 hV
        go_wp2_with (at_builtin; go_loud (refine wpList_appr rfl (.tmp 43) (.tmp 50) rfl w.heap.size v6 (A ++ b0 ++ K1) rfl Ho67.out _ V1 rfl Hr7.out ?_ B7.size ?_); (omega); intro v8 w8 ho8 hold8 ha8)
        have B8 := B7.trans (Ho67.out.below ha8 B7.size)
        go_roundw
        case rel => exact ⟨k + 1, by omega, by go_num, by rw [Hfin.out, ← List.append_assoc, HA.out, ← List.append_assoc, ← List.append_assoc]; exact ho8, B8⟩
        case measure => simp [intOf]; omega
    · obtain rfl : k = l.length := by omega
      have hown := Hown.out
      rw [List.take_of_length_le (Nat.le_refl _)] at hown
      have Ho := Lib.hid hown
      clear hown
      go_wp2
      go_ret
      exact ⟨_, rfl, by rw [HT.out _ rfl]; exact Ho.out, hbr⟩
end Go.Proofs.Ytmgifejmheoddaa
