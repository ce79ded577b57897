/- The walk of WireBack. -/
import Derived.Test.YtpdkekpdahefgaaWback
import Derived.Deep.RegionHeld3
namespace Go.Proofs.Ytpdkekpdahefgaa
open Go.RowKit
set_option linter.unusedVariables false

/-- how the first loop of WireBack stands behind k Items -/
def Back1 (w wr : World) (its : List ItemD) (k : Nat) (vw : Value) (bad : Bool) : Prop :=
  ∃ v', WP wr w.heap.size w.heap.size v' vw (itemsB (its.take k)) bad ∧ bad = (its.take k).any itemBad ∧ Below w.heap.size w wr
theorem any_snoc (L : List ItemD) (k : Nat) (h : k < L.length) : (L.take (k + 1)).any itemBad = ((L.take k).any itemBad || itemBad L[k]) := by
  rw [List.take_succ_eq_append_getElem h, List.any_append]; simp

theorem item_cells {w w1 : World} {F : Nat → Prop} {a b c : Value} {T : TypeId} (hc : Chg F (w.alloc (.cells #[a, b, c] T)) w1) (hF : ¬ F w.heap.size) :
    w1.cell? ⟨w.heap.size, 0, none⟩ = some a ∧ w1.cell? ⟨w.heap.size, 1, none⟩ = some b ∧ w1.cell? ⟨w.heap.size, 2, none⟩ = some c := by
  have h := blk_chg (heap_alloc_new w (.cells #[a, b, c] T)) hc hF
  obtain ⟨h0, h1, h2, _⟩ := cell_three h
  exact ⟨h0, h1, h2⟩

set_option maxRecDepth 100000 in
set_option maxHeartbeats 8000000 in
theorem wback_any {w : World} {a : Option Addr} {c : Nat} {its : List ItemD} (hI : ITs w a its) (hil : its.length ≤ maxLen) :
    Calls Try.prog 8 #[.slice a its.length c] w fun e w' => e = .returned (.bool true) ∧ Below w.heap.size w w' := by
  have Hil := Lib.hid hil
  unfold maxLen at hil
  have HI := Lib.hid hI
  clear hI
  by_cases h2 : smallB its = true
  · obtain ⟨hs1, hs2⟩ := smallB_all h2
    have Hs1 : Hid (∀ x ∈ its, x.n ≤ 9223372036854775807 ∧ x.b.length ≤ 500) := Lib.hid fun x hx => ⟨(HI.out.2 x hx).2.2.2.2.1, hs1 x hx⟩
    have H2 := Lib.hid h2
    clear h2 hs1
    go_enter Try.func8, Try.ntmps8
    go_wp2_with fail; (with_reducible refine (small_any HI.out Hil.out).mono ?_); rintro e w1 ⟨rfl, hb1⟩
    rw [H2.out]
    go_upto_region 4 with fail
    refine gen_wp (fun w' => WP w' w1.heap.size w.heap.size (.slice none 0 0) (.slice none 0 0) [] false ∧ Below w.heap.size w w') ?_ ?_
    · exact ⟨⟨⟨heap_alloc_new w1 _, OB.nil _ _, by simp [Value.ownBlock]⟩, OB.nil _ _, fun q hq => by simp [Value.ownBlock] at hq⟩, hb1.alloc hb1.size _⟩
    rintro w2 ⟨hwp2, B2⟩
    have Hwp2 := Lib.hid hwp2
    have hp1 := hb1.size
    generalize w1.heap.size = p at *
    clear hwp2 hb1
    go_wp2
    go_loopw [4, 5, 21] (fun vw bd i wr => ∃ (k : Nat) (bad : Bool) (v' : Value), k ≤ its.length ∧ i = .int .i64 k ∧ bd = .bool bad ∧ WP wr p w.heap.size v' vw (itemsB (its.take k)) bad ∧ bad = (its.take k).any itemBad ∧ Below w.heap.size w wr) (fun _ _ i _ => its.length - (intOf i).toNat)
    case atStart => exact ⟨0, false, _, Nat.zero_le _, rfl, rfl, Hwp2.out, rfl, B2⟩
    case round =>
      obtain ⟨k, bad, v', hk, rfl, rfl, hwp, hbad, hbr⟩ := hrel
      have hil2 := itemsB_len its Hs1.out k hk
      have Hbad := Lib.hid hbad
      have hz := hbr.size
      by_cases hlt : k < its.length
      · obtain ⟨b, off, ao, cc, rfl, d0, d1, d2, hxr, x2, x3⟩ := ITs.cellsV HI.out hbr k hlt
        obtain ⟨_, hx5⟩ := Hs1.out _ (List.getElem_mem hlt)
        have Hsn := Lib.hid (itemsB_snoc its k hlt)
        have Han := Lib.hid (any_snoc its k hlt)
        have hwp3 := hwp.below ((Below.refl _ wr).alloc (Nat.le_refl _) (.cells #[.int .i64 its[k].kind, .int .i64 its[k].n, .slice ao its[k].b.length cc] 46))
        have hb3 := hbr.alloc hz (.cells #[.int .i64 its[k].kind, .int .i64 its[k].n, .slice ao its[k].b.length cc] 46)
        have hq0 : ¬ fpW p v' wr.heap.size := fun hf => by have := hwp.1.lt _ hf; omega
        have Hq0 := Lib.hid hq0
        have Hwp3 := Lib.hid hwp3
        have Hxr := Lib.hid hxr
        clear hwp hwp3 hbad hq0 hxr
        generalize its[k] = x at *
        have hz3 := hb3.size
        generalize hA : itemsB (its.take k) = A at *
        clear hA
        by_cases e1 : x.kind = 1
        · rw [e1] at d0 hb3 Hwp3 hz3
          by_cases hneg : x.n < 0
          · have Hib : Hid (itemB x = []) := Lib.hid (by unfold itemB; rw [if_pos e1, if_pos hneg])
            have Hbb : Hid (itemBad x = true) := Lib.hid (by unfold itemBad; exact decide_eq_true ⟨e1, hneg⟩)
            clear e1
            have HW3 := Lib.hid Hwp3.out.1
            go_wp2_with fail; (with_reducible refine (wnumber_neg HW3.out x.n hneg).mono ?_); rintro e w4 ⟨rfl, v4, hw4, hc4, hl4⟩
            obtain ⟨c0, c1, c2⟩ := item_cells hc4 Hq0.out
            have Hwp4 := Lib.hid (Hwp3.out.bad hw4 hc4 hl4)
            have B4 := hb3.trans (hc4.below (fun q hq => Hwp3.out.1.ge hp1 q hq) hz3)
            clear hw4 hc4 hl4
            go_wp2
            go_roundw
            case rel => exact ⟨k + 1, true, v4, by omega, by go_num, rfl, by rw [Hsn.out, Hib.out, List.append_nil]; exact Hwp4.out, by rw [Han.out, Hbb.out, Bool.or_true], B4⟩
            case measure => simp [intOf]; omega
          · obtain ⟨n, hn⟩ := Int.eq_ofNat_of_zero_le (Int.not_lt.1 hneg)
            have Hib : Hid (itemB x = num n) := Lib.hid (by unfold itemB; rw [if_pos e1, if_neg hneg, hn, Int.toNat_natCast])
            have Hbb : Hid (itemBad x = false) := Lib.hid (by unfold itemBad; exact decide_eq_false fun h => hneg h.2)
            rw [hn] at d1 hb3 Hwp3 hz3 x3
            clear e1 hn hneg
            have hn63 : n < 9223372036854775808 := by omega
            have h9 := num_len9 hn63
            have HW3 := Lib.hid Hwp3.out.1
            go_wp2_with fail; (with_reducible refine (wnumber HW3.out n hn63 (by omega) hz3).mono ?_); rintro e w4 ⟨rfl, v4, hw4, hc4, hl4⟩
            obtain ⟨c0, c1, c2⟩ := item_cells hc4 Hq0.out
            have Hw4 := Lib.hid hw4
            have Hc4 := Lib.hid hc4
            have Hl4 := Lib.hid hl4
            have Ho4 := Lib.hid (Hwp3.out.want hc4)
            clear hw4 hc4 hl4
            go_wp2_with fail; (with_reducible refine (refnumber n _ hn63).mono ?_); rintro e w5 ⟨v5, rfl, ho5, hb5⟩
            have Ho5 := Lib.hid (Ho4.out.past hb5 (Nat.le_refl _))
            have Hr5 := Lib.hid ho5.reads
            have hz5 := Nat.le_trans hz3 (Nat.le_trans Hc4.out.size hb5.size)
            clear ho5
            go_wp2_with (at_builtin; go_loud (refine wpList_appr rfl (.tmp 35) (.tmp 38) rfl w.heap.size u4 A rfl Ho5.out v5 (num n) rfl Hr5.out ?_ hz5 ?_); omega; intro v6 w6 ho6 hold6 ha6)
            have hst := Hwp3.out.step Hw4.out Hc4.out Hl4.out hb5 ho6 ha6 hz3 hp1
            go_roundw
            case rel => exact ⟨k + 1, bad, v4, by omega, by go_num, rfl, by rw [Hsn.out, Hib.out]; exact hst.1, by rw [Han.out, Hbb.out, Bool.or_false]; exact Hbad.out, hb3.trans hst.2⟩
            case measure => simp [intOf]; omega
        have n1 : (x.kind == 1) = false := by rw [beq_eq_false_iff_ne]; exact e1
        have Hbb : Hid (itemBad x = false) := Lib.hid (by unfold itemBad; exact decide_eq_false fun h => e1 h.1)
        have Hi1 : Hid (itemB x = if x.kind = 2 then num x.b.length ++ x.b else if x.kind = 3 then x.b else if x.kind = 4 then [UInt8.ofNat (x.n % 256).toNat] else []) := Lib.hid (by unfold itemB; rw [if_neg e1])
        clear e1
        by_cases e2 : x.kind = 2
        · rw [e2] at d0 hb3 Hwp3 hz3
          have Hib : Hid (itemB x = num x.b.length ++ x.b) := Lib.hid (by rw [Hi1.out, if_pos e2])
          clear e2
          have h9 := num_len9 (n := x.b.length) (by omega)
          have HW3 := Lib.hid Hwp3.out.1
          have hd : 0 < x.b.length → ∀ q, (Value.slice ao x.b.length cc).ownBlock = some q → ¬ fpW p v' q := fun h0 q hq hf => by
            have h5 := Hxr.out.lt0 h0 q hq
            have h6 := HW3.out.ge hp1 q hf
            omega
          have ht := wtext HW3.out (Hxr.out.below hb3) hd (by omega) hz3
          have Ht := Lib.hid ht
          clear ht hd
          go_wp2_with fail; (with_reducible refine (Ht.out).mono ?_); rintro e w4 ⟨rfl, v4, hw4, hc4, hl4⟩
          obtain ⟨c0, c1, c2⟩ := item_cells hc4 Hq0.out
          have B4 := hb3.trans (hc4.below (fun q hq => HW3.out.ge hp1 q hq) hz3)
          have Hw4 := Lib.hid hw4
          have Hc4 := Lib.hid hc4
          have Hl4 := Lib.hid hl4
          have Ho4 := Lib.hid (Hwp3.out.want hc4)
          have hrt := reftext (Hxr.out.below B4) (by omega)
          have Hrt := Lib.hid hrt
          clear hw4 hc4 hl4 hrt
          go_wp2_with fail; (with_reducible refine (Hrt.out).mono ?_); rintro e w5 ⟨v5, rfl, ho5, hb5⟩
          have Ho5 := Lib.hid (Ho4.out.past hb5 (Nat.le_refl _))
          have Hr5 := Lib.hid ho5.reads
          have hz5 := Nat.le_trans hz3 (Nat.le_trans Hc4.out.size hb5.size)
          clear ho5
          go_wp2_with (at_builtin; go_loud (refine wpList_appr rfl (.tmp 45) (.tmp 48) rfl w.heap.size u4 A rfl Ho5.out v5 (num x.b.length ++ x.b) rfl Hr5.out ?_ hz5 ?_); (rw [List.length_append]; omega); intro v6 w6 ho6 hold6 ha6)
          have hst := Hwp3.out.step (l' := A ++ (num x.b.length ++ x.b)) (by rw [← List.append_assoc]; exact Hw4.out) Hc4.out Hl4.out hb5 ho6 ha6 hz3 hp1
          go_roundw
          case rel => exact ⟨k + 1, bad, v4, by omega, by go_num, rfl, by rw [Hsn.out, Hib.out]; exact hst.1, by rw [Han.out, Hbb.out, Bool.or_false]; exact Hbad.out, hb3.trans hst.2⟩
          case measure => simp [intOf]; omega
        have n2 : (x.kind == 2) = false := by rw [beq_eq_false_iff_ne]; exact e2
        have Hi2 : Hid (itemB x = if x.kind = 3 then x.b else if x.kind = 4 then [UInt8.ofNat (x.n % 256).toNat] else []) := Lib.hid (by rw [Hi1.out, if_neg e2])
        clear e2 Hi1
        by_cases e3 : x.kind = 3
        · rw [e3] at d0 hb3 Hwp3 hz3
          have Hib : Hid (itemB x = x.b) := Lib.hid (by rw [Hi2.out, if_pos e3])
          clear e3
          have HW3 := Lib.hid Hwp3.out.1
          have ht := wraw HW3.out (Hxr.out.below hb3) (by omega) hz3
          have Ht := Lib.hid ht
          clear ht
          go_wp2_with fail; (with_reducible refine (Ht.out).mono ?_); rintro e w4 ⟨rfl, v4, hw4, hc4, hl4⟩
          obtain ⟨c0, c1, c2⟩ := item_cells hc4 Hq0.out
          have B4 := hb3.trans (hc4.below (fun q hq => HW3.out.ge hp1 q hq) hz3)
          have Hw4 := Lib.hid hw4
          have Hc4 := Lib.hid hc4
          have Hl4 := Lib.hid hl4
          have Ho4 := Lib.hid (Hwp3.out.want hc4)
          have Hr4 := Lib.hid (Hxr.out.below B4)
          have hz5 := Nat.le_trans hz3 Hc4.out.size
          clear hw4 hc4 hl4
          go_wp2_with (at_builtin; go_loud (refine wpList_appr rfl (.tmp 55) (.tmp 57) rfl w.heap.size u4 A rfl Ho4.out (.slice ao x.b.length cc) x.b rfl Hr4.out ?_ hz5 ?_); omega; intro v6 w6 ho6 hold6 ha6)
          have hst := Hwp3.out.step Hw4.out Hc4.out Hl4.out (Below.refl _ _) ho6 ha6 hz3 hp1
          go_roundw
          case rel => exact ⟨k + 1, bad, v4, by omega, by go_num, rfl, by rw [Hsn.out, Hib.out]; exact hst.1, by rw [Han.out, Hbb.out, Bool.or_false]; exact Hbad.out, hb3.trans hst.2⟩
          case measure => simp [intOf]; omega
        have n3 : (x.kind == 3) = false := by rw [beq_eq_false_iff_ne]; exact e3
        have Hi3 : Hid (itemB x = if x.kind = 4 then [UInt8.ofNat (x.n % 256).toNat] else []) := Lib.hid (by rw [Hi2.out, if_neg e3])
        clear e3 Hi2
        by_cases e4 : x.kind = 4
        · rw [e4] at d0 hb3 Hwp3 hz3
          have Hib : Hid (itemB x = [UInt8.ofNat (x.n % 256).toNat]) := Lib.hid (by rw [Hi3.out, if_pos e4])
          clear e4
          have HW3 := Lib.hid Hwp3.out.1
          have ht := wbyteN HW3.out x.n (by omega) hz3
          have Ht := Lib.hid ht
          clear ht
          go_wp2_with fail; (with_reducible refine (Ht.out).mono ?_); rintro e w4 ⟨rfl, v4, hw4, hc4, hl4⟩
          obtain ⟨c0, c1, c2⟩ := item_cells hc4 Hq0.out
          have Hw4 := Lib.hid hw4
          have Hc4 := Lib.hid hc4
          have Hl4 := Lib.hid hl4
          have Ho4 := Lib.hid (Hwp3.out.want hc4)
          have hz5 := Nat.le_trans hz3 Hc4.out.size
          clear hw4 hc4 hl4
          go_wp2_with (at_builtin; go_loud (refine wpList_appb rfl (.tmp 65) (.tmp 69) rfl w.heap.size u4 A rfl Ho4.out _ 1 1 [UInt8.ofNat (x.n % 256).toNat] rfl ?_ rfl (by decide) ?_ hz5 ?_); (exact bvs_lowN x.n); (simp only [List.length_cons, List.length_nil]; omega); intro v6 w6 ho6 ha6)
          have hst := Hwp3.out.step Hw4.out Hc4.out Hl4.out (Below.refl _ _) ho6 ha6 hz3 hp1
          go_roundw
          case rel => exact ⟨k + 1, bad, v4, by omega, by go_num, rfl, by rw [Hsn.out, Hib.out]; exact hst.1, by rw [Han.out, Hbb.out, Bool.or_false]; exact Hbad.out, hb3.trans hst.2⟩
          case measure => simp [intOf]; omega
        have n4 : (x.kind == 4) = false := by rw [beq_eq_false_iff_ne]; exact e4
        have Hib : Hid (itemB x = []) := Lib.hid (by rw [Hi3.out, if_neg e4])
        clear e4 Hi3
        go_wp2
        go_roundw
        case rel => exact ⟨k + 1, bad, v', by omega, by go_num, rfl, by rw [Hsn.out, Hib.out, List.append_nil]; exact Hwp3.out, by rw [Han.out, Hbb.out, Bool.or_false]; exact Hbad.out, hb3⟩
        case measure => simp [intOf]; omega
      · have hkl : k = its.length := by omega
        subst hkl
        obtain ⟨wA, rfl⟩ : ∃ wA : World, wA = wr := ⟨_, rfl⟩
        have Htk : Hid (its.take its.length = its) := Lib.hid (List.take_of_length_le (Nat.le_refl _))
        rw [Htk.out] at hil2 hwp hbad
        have Hwp := Lib.hid hwp
        have HW := Lib.hid hwp.1
        have HO := Lib.hid hwp.2.1
        clear hwp
        cases bad with
        | true =>
          clear hbad Hbad
          go_wp2_with fail; (with_reducible refine (wbytes_bad HW.out).mono ?_); rintro e w4 ⟨rfl, hw4⟩
          subst hw4
          go_wp2_with fail; (with_reducible refine (awake_any _).mono ?_); rintro e wa ⟨rfl, hba⟩
          go_wp2
          go_ret
          exact ⟨rfl, bnext hbr hba⟩
        | false =>
          have Hgood : Hid (∀ x ∈ its, itemBad x = false) := Lib.hid (by
            have h3 := hbad.symm
            rw [List.any_eq_false] at h3
            intro x hx
            simpa using h3 x hx)
          clear hbad Hbad
          obtain ⟨A, hA⟩ : ∃ A, itemsB its = A := ⟨_, rfl⟩
          rw [hA] at hil2 HW HO
          have HA := Lib.hid hA
          clear hA
          have hby := wbytes HW.out (by omega)
          have Hby := Lib.hid hby
          clear hby
          go_wp2_with fail; (with_reducible refine (Hby.out).mono ?_); rintro e w4 ⟨v4, rfl, ho4, ⟨g, rfl⟩, hb4⟩
          have B4 := bnext hbr hb4
          have Ho4 := Lib.hid ho4
          have hg4 := ho4.lt (k := g) rfl
          have HO4 := Lib.hid (HO.out.reads.below hb4)
          clear ho4
          go_wp2_with fail; (with_reducible refine (same_b Ho4.out.reads HO4.out true (by rw [beq_iff_eq])).mono ?_); rintro e w5 ⟨rfl, hb5⟩
          have B5 := bnext B4 hb5
          have Ho5 := Lib.hid (Ho4.out.past hb5 (Nat.le_refl _))
          have hz5 := hb5.size
          have hnr := newreader_any Ho5.out.reads (by omega)
          have Hnr := Lib.hid hnr
          clear hnr
          go_wp2_with fail; (with_reducible refine (Hnr.out).mono ?_); rintro e w6 ⟨p2, go2, rfl, hp2, hgo2, hrd6, hb6⟩
          have B6 := bnext B5 hb6
          have Ho6 := Lib.hid (Ho5.out.past hb6 (Nat.le_refl _))
          have Hrd6 := Lib.hid hrd6
          have Hgo2 := Lib.hid hgo2
          have hp2w := Nat.le_trans B5.size hp2
          clear hrd6 hgo2
          go_wp2
          go_loopw [99] (fun i wx => ∃ (k : Nat) (m : List UInt8), k ≤ A.length ∧ m.length = A.length ∧ i = .int .i64 k ∧ OB wx wA.heap.size (.slice (some ⟨g, 0, none⟩) A.length A.length) m ∧ RD wx p2 go2 A false ∧ Below w.heap.size w wx) (fun i _ => A.length - (intOf i).toNat)
          case atStart => exact ⟨0, A, Nat.zero_le _, rfl, rfl, Ho6.out, Hrd6.out, B6⟩
          case round =>
            obtain ⟨k, m, hk2, hmA, rfl, hox, hrdx, hbx⟩ := hrel
            have Hox := Lib.hid hox
            have Hrdx := Lib.hid hrdx
            have HmA := Lib.hid hmA
            by_cases hlt2 : k < A.length
            · have hfz := hox.fz k
              have hcell := hox.cellN k (by omega)
              generalize m[k] = y at hcell
              clear hox hrdx hmA
              go_wp2
              go_roundw
              case rel =>
                rw [xor8]
                refine ⟨k + 1, m.set k (UInt8.ofNat (255 - y.toNat)), by omega, by rw [List.length_set]; exact HmA.out, by go_num, Hox.out.set k _, Hrdx.out.chg (Chg.set wr g k _) (by omega) (fun q hq => ?_), hbx.setCell (show w.heap.size ≤ g by omega) _⟩
                have := Hgo2.out q hq
                omega
              case measure => simp [intOf]; omega
            · clear Hox HmA hmA hox hrdx
              go_wp2
              go_loopw [113] (fun i wx => ∃ (k : Nat), k ≤ its.length ∧ i = .int .i64 k ∧ RD wx p2 go2 (itemsB (its.drop k)) false ∧ Below w.heap.size w wx) (fun i _ => its.length - (intOf i).toNat)
              case atStart => exact ⟨0, Nat.zero_le _, rfl, by rw [List.drop_zero, HA.out]; exact Hrdx.out, hbx⟩
              case round =>
                clear hbx hlt2 hk2
                obtain ⟨k, hk3, rfl, hrd, hbr⟩ := hrel
                have Hrd := Lib.hid hrd
                have hz := hbr.size
                clear hrd
                by_cases hlt3 : k < its.length
                · obtain ⟨b, off, ao, cc, rfl, d0, d1, d2, hxr, x2, x3⟩ := ITs.cellsV HI.out hbr k hlt3
                  have hx5 := (Hs1.out _ (List.getElem_mem hlt3)).2
                  have hgd := Hgood.out _ (List.getElem_mem hlt3)
                  have Hdr := Lib.hid (itemsB_drop its k hlt3)
                  have Hxr := Lib.hid hxr
                  have Hgd := Lib.hid hgd
                  clear hxr hgd
                  generalize its[k] = x at *
                  go_upto_region 39 with fail
                  refine gen_wp (fun w' => w'.cell? ⟨wr.heap.size, 0, none⟩ = some (.int .i64 x.kind) ∧ w'.cell? ⟨wr.heap.size, 1, none⟩ = some (.int .i64 x.n) ∧ w'.cell? ⟨wr.heap.size, 2, none⟩ = some (.slice ao x.b.length cc) ∧ wr.heap.size < w'.heap.size ∧ RD w' p2 go2 (itemsB (its.drop k)) false ∧ Below w.heap.size w w') ?_ ?_
                  · refine ⟨?_, ?_, ?_, by simp, Hrd.out.alloc _, hbr.alloc hz _⟩
                    all_goals go_simp
                  have hpq : p2 ≠ wr.heap.size := by have := Hrd.out.lt; omega
                  rintro w3 ⟨c0, c1, c2, hqz, hrd3, hb3⟩
                  have Hrd3 := Lib.hid hrd3
                  have hz3 := hb3.size
                  generalize wr.heap.size = q at *
                  clear d0 d1 d2 hrd3 hbr hz Hrd
                  by_cases e1 : x.kind = 1
                  · rw [e1] at c0
                    have hnn : 0 ≤ x.n := by
                      have := Hgd.out
                      unfold itemBad at this
                      simp only [decide_eq_false_iff_not, not_and] at this
                      have := this e1
                      omega
                    obtain ⟨n, hn⟩ := Int.eq_ofNat_of_zero_le hnn
                    have hN := rnumber Hrd3.out.drew
                    rw [Hdr.out, show itemB x = num n by unfold itemB; rw [if_pos e1, if_neg (by omega), hn, Int.toNat_natCast], rdNum9_num (by omega)] at hN
                    rw [hn] at c1
                    have HN := Lib.hid hN
                    clear hN e1 hn hnn
                    go_upto_region 42 with fail
                    go_region_held3 (fun w' => w'.cell? ⟨q, 1, none⟩ = some (.int .i64 n)) (first | exact c1 | exact c1') (first | (go_at_call 13; (with_reducible refine (HN.out).mono ?_); rintro e w5 ⟨hg5, rfl, hrd5⟩; have c1' := hg5.cell c1 (by simp; omega); have Hrd5 := Lib.hid hrd5; have B5 := hb3.drew.grown hg5 hz3 (fun q hq => by cases hq; exact hp2w); clear hrd5 hg5))
                    go_wp2_with fail; (with_reducible refine (bad_any Hrd5.out).mono ?_); rintro e w7 ⟨rfl, hw7⟩
                    subst hw7
                    go_wp2
                    go_roundw
                    case rel => exact ⟨k + 1, by omega, by go_num, Hrd5.out, B5⟩
                    case measure => simp [intOf]; omega
                  have n1 : (x.kind == 1) = false := by rw [beq_eq_false_iff_ne]; exact e1
                  have Hi1 : Hid (itemB x = if x.kind = 2 then num x.b.length ++ x.b else if x.kind = 3 then x.b else if x.kind = 4 then [UInt8.ofNat (x.n % 256).toNat] else []) := Lib.hid (by unfold itemB; rw [if_neg e1])
                  clear e1
                  by_cases e2 : x.kind = 2
                  · rw [e2] at c0
                    have hrd4 := Hrd3.out.drew
                    rw [Hdr.out, Hi1.out, if_pos e2] at hrd4
                    have Htx : Hid (rdText (num x.b.length ++ x.b ++ itemsB (its.drop (k + 1))) = some (x.b, itemsB (its.drop (k + 1)))) := Lib.hid (rdText_num _ _ (by omega))
                    have Hrd4 := Lib.hid hrd4
                    clear hrd4 e2 Hi1
                    go_upto_region 44 with fail
                    go_region_held3 (fun w' => w'.cell? ⟨q, 2, none⟩ = some (.slice ao x.b.length cc)) (first | exact c2 | exact c2' | exact c2'') (first
                      | (go_at_call 25; (with_reducible refine (rtext_ok Hrd4.out Htx.out).mono ?_); rintro e w5 ⟨a5, c5, rfl, hrb5, hrd5, hg5, _⟩; have c2' := hg5.cell c2 (by simp; omega); have Hrd5' := Lib.hid hrd5; have Hrb5 := Lib.hid hrb5; have B5' := hb3.drew.grown hg5 hz3 (fun q hq => by cases hq; exact hp2w); clear hrd5 hg5 hrb5)
                      | (go_at_call 19; (with_reducible refine (same_b Hrb5.out (Hxr.out.below B5') true (by rw [beq_iff_eq])).mono ?_); rintro e w6 ⟨rfl, hb6⟩; have c2'' := cell_next c2' _ hb6; have Hrd5 := Lib.hid (Hrd5'.out.below hb6); have B5 := bnext B5' hb6))
                    go_wp2_with fail; (with_reducible refine (bad_any Hrd5.out).mono ?_); rintro e w7 ⟨rfl, hw7⟩
                    subst hw7
                    go_wp2
                    go_roundw
                    case rel => exact ⟨k + 1, by omega, by go_num, Hrd5.out, B5⟩
                    case measure => simp [intOf]; omega
                  have n2 : (x.kind == 2) = false := by rw [beq_eq_false_iff_ne]; exact e2
                  have Hi2 : Hid (itemB x = if x.kind = 3 then x.b else if x.kind = 4 then [UInt8.ofNat (x.n % 256).toNat] else []) := Lib.hid (by rw [Hi1.out, if_neg e2])
                  clear e2 Hi1
                  by_cases e3 : x.kind = 3
                  · rw [e3] at c0
                    have hrd4 := Hrd3.out.drew
                    rw [Hdr.out, Hi2.out, if_pos e3] at hrd4
                    have hrk := raw_ok hrd4 x.b.length (by rw [List.length_append]; omega)
                    have Hrk := Lib.hid hrk
                    clear hrd4 e3 Hi2 hrk
                    go_upto_region 46 with fail
                    go_region_held3 (fun w' => w'.cell? ⟨q, 2, none⟩ = some (.slice ao x.b.length cc)) (first | exact c2 | exact c2' | exact c2'') (first
                      | (go_at_call 22; (with_reducible refine (Hrk.out).mono ?_); rintro e w5 ⟨v5, rfl, hrb5, hrd5, hg5, ho5, ⟨a5, c5, rfl, hm5⟩⟩; rw [List.take_left] at hrb5; rw [List.drop_left] at hrd5; have c2' := hg5.cell c2 (by simp; omega); have Hrd5' := Lib.hid hrd5; have Hrb5 := Lib.hid hrb5; have B5' := hb3.drew.grown hg5 hz3 (fun q hq => by cases hq; exact hp2w); clear hrd5 hg5 hrb5 ho5)
                      | (go_at_call 19; (with_reducible refine (same_b Hrb5.out (Hxr.out.below B5') true (by rw [beq_iff_eq])).mono ?_); rintro e w6 ⟨rfl, hb6⟩; have c2'' := cell_next c2' _ hb6; have Hrd5 := Lib.hid (Hrd5'.out.below hb6); have B5 := bnext B5' hb6))
                    go_wp2_with fail; (with_reducible refine (bad_any Hrd5.out).mono ?_); rintro e w7 ⟨rfl, hw7⟩
                    subst hw7
                    go_wp2
                    go_roundw
                    case rel => exact ⟨k + 1, by omega, by go_num, Hrd5.out, B5⟩
                    case measure => simp [intOf]; omega
                  have n3 : (x.kind == 3) = false := by rw [beq_eq_false_iff_ne]; exact e3
                  have Hi3 : Hid (itemB x = if x.kind = 4 then [UInt8.ofNat (x.n % 256).toNat] else []) := Lib.hid (by rw [Hi2.out, if_neg e3])
                  clear e3 Hi2
                  by_cases e4 : x.kind = 4
                  · rw [e4] at c0
                    have hrd4 := Hrd3.out.drew
                    rw [Hdr.out, Hi3.out, if_pos e4] at hrd4
                    have Hrd4 : Hid (RD w3.drew p2 go2 (UInt8.ofNat (x.n % 256).toNat :: itemsB (its.drop (k + 1))) false) := Lib.hid hrd4
                    clear hrd4 e4 Hi3
                    go_upto_region 48 with fail
                    go_region_held3 (fun w' => w'.cell? ⟨q, 1, none⟩ = some (.int .i64 x.n)) (first | exact c1 | exact c1') (first | (go_at_call 26; (with_reducible refine (rbyteN Hrd4.out).mono ?_); rintro e w5 ⟨rfl, hrd5, hg5⟩; have c1' := hg5.cell c1 (by simp; omega); have Hrd5 := Lib.hid hrd5; have B5 := hb3.drew.grown hg5 hz3 (fun q hq => by cases hq; exact hp2w); clear hrd5 hg5))
                    go_wp2_with fail; (with_reducible refine (bad_any Hrd5.out).mono ?_); rintro e w7 ⟨rfl, hw7⟩
                    subst hw7
                    go_wp2
                    go_roundw
                    case rel => exact ⟨k + 1, by omega, by go_num, Hrd5.out, B5⟩
                    case measure => simp [intOf]; omega
                  have n4 : (x.kind == 4) = false := by rw [beq_eq_false_iff_ne]; exact e4
                  have Hrd5 : Hid (RD w3 p2 go2 (itemsB (its.drop (k + 1))) false) := by
                    have h := Hrd3.out
                    rw [Hdr.out, Hi3.out, if_neg e4, List.nil_append] at h
                    exact Lib.hid h
                  have B5 := hb3
                  clear e4 Hi3
                  go_wp2_with fail; (with_reducible refine (bad_any Hrd5.out).mono ?_); rintro e w7 ⟨rfl, hw7⟩
                  subst hw7
                  go_wp2
                  go_roundw
                  case rel => exact ⟨k + 1, by omega, by go_num, Hrd5.out, B5⟩
                  case measure => simp [intOf]; omega
                · have hkl : k = its.length := by omega
                  subst hkl
                  have hrdz := Hrd.out
                  rw [show itemsB (its.drop its.length) = [] by rw [List.drop_length]; rfl] at hrdz
                  have Hrdz := Lib.hid hrdz
                  clear hrdz
                  go_wp2_with fail; (with_reducible refine (done_any Hrdz.out 0 (by simp)).mono ?_); rintro e w7 ⟨rfl, hw7⟩
                  subst hw7
                  go_wp2_with fail; (with_reducible refine (left_any Hrdz.out).mono ?_); rintro e w7 ⟨rfl, hw7⟩
                  subst hw7
                  go_wp2_with fail; (with_reducible refine (awake_any _).mono ?_); rintro e wc ⟨rfl, hbc⟩
                  go_wp2
                  go_ret
                  exact ⟨rfl, bnext hbr hbc⟩
  · have h2 : smallB its = false := by simpa using h2
    have H2 := Lib.hid h2
    clear h2
    go_enter Try.func8, Try.ntmps8
    go_wp2_with fail; (with_reducible refine (small_any HI.out Hil.out).mono ?_); rintro e w1 ⟨rfl, hb1⟩
    rw [H2.out]
    go_wp2_with fail; (with_reducible refine (awake_any _).mono ?_); rintro e wa ⟨rfl, hba⟩
    go_wp2
    go_ret
    exact ⟨rfl, bnext hb1 hba⟩
end Go.Proofs.Ytpdkekpdahefgaa
