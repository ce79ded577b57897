/- The contracts of tithebarnref03.Right and of tithebarnref03.Bytes. -/
import Derived.Test.YtmhklmecpbdljaaDoorYBytes
import Derived.Test.YtmhklmecpbdljaaDoorYOrd
namespace Go.Proofs.YtmhklmecpbdljaaDoor
open Go.RowKit
set_option linter.unusedVariables false

set_option maxHeartbeats 1000000 in
theorem refright (u : ByteArray) (s k : Int) (w : World) (hu : u.size ≤ maxLen) :
    Calls Tryd.prog 18 #[.agg #[.string u, .int .i64 s, .int .i64 k]] w fun e w' => e = .returned (.bool (keyRight u s k)) ∧ Below w.heap.size w w' := by
  unfold maxLen at hu
  go_enter Tryd.func18, Tryd.ntmps18
  go_wp2
  all_goals (go_ret; first
    | ((have hq : keyRight u s k = decide (k ≤ 3) := (by simp only [keyRight, decide_eq_decide]; omega)); rw [hq]; exact ⟨rfl, by (repeat first | exact Below.refl _ _ | refine Below.drew ?_ | refine Below.alloc ?_ (by simp <;> omega) _ | refine Below.setCell ?_ (by simp <;> omega) _)⟩)
    | ((have hq : keyRight u s k = false := (by simp only [keyRight, decide_eq_false_iff_not]; omega)); rw [hq]; exact ⟨rfl, by (repeat first | exact Below.refl _ _ | refine Below.drew ?_ | refine Below.alloc ?_ (by simp <;> omega) _ | refine Below.setCell ?_ (by simp <;> omega) _)⟩))

theorem apart_next {w w' : World} {B : Nat} {vl v v' : Value} {l : List UInt8} (hl : OB w B vl l) (ha : App w w' v v') (hne : vl.ownBlock = none ∨ vl.ownBlock ≠ v.ownBlock) : vl.ownBlock = none ∨ vl.ownBlock ≠ v'.ownBlock := by
  rcases ha.lies with h | ⟨g, h, hg⟩
  · rw [h]; exact hne
  · cases e : vl.ownBlock with
    | none => exact .inl rfl
    | some k => exact .inr (by rw [h]; intro e2; cases e2; have := (hl.lt e).2; omega)
theorem apart_new {w w1 : World} {B C : Nat} {vl v : Value} {l m : List UInt8} (hl : OB w B vl l) (hv : OB w1 C v m) (hB : w1.heap.size ≤ B) : vl.ownBlock = none ∨ vl.ownBlock ≠ v.ownBlock := by
  cases e : vl.ownBlock with
  | none => exact .inl rfl
  | some k =>
    refine .inr fun e2 => ?_
    have h1 := (hl.lt e).1
    have h2 := (hv.lt e2.symm).2
    omega
/-- the six bytes of a number, the least ahead -/
def lows (n : Nat) : List UInt8 := [byteAt n 0, byteAt n 1, byteAt n 2, byteAt n 3, byteAt n 4, byteAt n 5]
theorem tdiv256 (x : Int) (h : 0 ≤ x) : Int.tdiv x 256 = x / 256 := Int.tdiv_eq_ediv_of_nonneg h
theorem tmod256 (x : Int) (h : 0 ≤ x) : Int.tmod x 256 = x % 256 := Int.tmod_eq_emod_of_nonneg h

theorem OB.cells {w : World} {B g n cap : Nat} {l : List UInt8} (h : OB w B (.slice (some ⟨g, 0, none⟩) n cap) l) (j : Nat) (hj : j < l.length) : w.cell? ⟨g, j, none⟩ = some (bv l[j]) := by
  obtain ⟨g', cap', hv, _, _, _, hc⟩ := h.form (by omega)
  simp only [Value.slice.injEq, Option.some.injEq, Addr.mk.injEq] at hv
  obtain ⟨⟨rfl, _⟩, _⟩ := hv
  exact hc j hj

set_option maxRecDepth 100000 in
set_option maxHeartbeats 4000000 in
theorem refbytes (u : ByteArray) (s k : Int) (w : World) (h : keyRight u s k = true) :
    Calls Tryd.prog 43 #[.agg #[.string u, .int .i64 s, .int .i64 k]] w fun e w' => ∃ v, e = .returned v ∧ OB w' w.heap.size v (keyBytes u.data.toList s k) ∧ Below w.heap.size w w' := by
  simp only [keyRight, decide_eq_true_eq] at h
  obtain ⟨h1, h2, h3, h4, h5, h6⟩ := h
  have hL := length_data u
  have HL := Lib.hid hL
  clear hL
  go_enter Tryd.func43, Tryd.ntmps43
  go_upto_region 1 with fail
  refine gen_wp (fun w' => Below w.heap.size w w' ∧ w'.cell? ⟨w.heap.size, 0, none⟩ = some (.string u) ∧ w'.cell? ⟨w.heap.size, 1, none⟩ = some (.int .i64 s) ∧ w'.cell? ⟨w.heap.size, 2, none⟩ = some (.int .i64 k)) ?_ ?_
  · refine ⟨?_, ?_, ?_, ?_⟩
    · (repeat first | exact Below.refl _ _ | refine Below.drew ?_ | refine Below.alloc ?_ (by simp <;> omega) _ | refine Below.setCell ?_ (by simp <;> omega) _)
    all_goals go_simp
  rintro w0 ⟨hb0, c0, c1, c2⟩
  have s0 := cell_next c0
  have s1 := cell_next c1
  have s2 := cell_next c2
  clear c0 c1 c2
  go_wp2
  go_loopw [3, 4] (fun v i wr => ∃ j : Nat, j ≤ u.size ∧ i = .int .i64 j ∧ OB wr w0.heap.size v (esc (u.data.toList.take j)) ∧ Below w0.heap.size w0 wr) (fun _ i _ => u.size - (intOf i).toNat)
  case atStart => exact ⟨0, Nat.zero_le _, rfl, OB.nil _ _, Below.refl _ _⟩
  case round =>
    obtain ⟨j, hj, rfl, hown, hbel⟩ := hrel
    by_cases hlt : j < u.size
    · have Hes : Hid (esc (u.data.toList.take (j + 1)) = esc (u.data.toList.take j) ++ (if u[j] = 0 then [0, 255] else [u[j]])) := by
        rw [take_snoc' _ _ (by rw [HL.out]; exact hlt), esc_snoc, getD_idx u j hlt]
        exact Lib.hid rfl
      have hle := esc_le (u.data.toList.take j)
      have hle2 : (u.data.toList.take j).length ≤ j := List.length_take_le _ _
      have hn : w0.heap.size ≤ wr.heap.size := hbel.size
      generalize esc (u.data.toList.take j) = es at hown Hes hle
      have Hown := Lib.hid hown
      clear hown
      by_cases hc0 : u[j] = 0
      · have Hc0 := Lib.hid hc0
        have hx : u[j].toNat = 0 := by rw [hc0]; rfl
        clear hc0
        go_wp2_with (first
          | (at_builtin; refine wpList_appb rfl (.tmp 16) (.tmp 21) rfl w0.heap.size u3 es rfl Hown.out _ 1 1 [0] rfl ?_ rfl (by decide) ?_ hn ?_; (first | rfl | (simp only [hx]; rfl)); (first | omega | (simp only [List.length_cons, List.length_nil]; omega) | (simp only [List.length_append, List.length_cons, List.length_nil]; omega)); intro v1 w1 ho1 ha1; have hn1 := Nat.le_trans hn ha1.grown.size; have hb1 := hbel.trans (Hown.out.below ha1 hn))
          | (at_builtin; refine wpList_appb rfl (.tmp 28) (.tmp 29) rfl w0.heap.size v1 (es ++ [0]) rfl ho1 #[.int .u8 255] 1 1 [255] rfl rfl rfl (by decide) ?_ hn1 ?_; (first | omega | (simp only [List.length_cons, List.length_nil]; omega) | (simp only [List.length_append, List.length_cons, List.length_nil]; omega)); intro v2 w2 ho2 ha2))
        go_roundw
        case rel => exact ⟨j + 1, by omega, by go_num, by rw [Hes.out, if_pos Hc0.out]; simpa using ho2, hb1.trans (ho1.below ha2 hn1)⟩
        case measure => simp [intOf]; omega
      · have Hc0 := Lib.hid hc0
        have hx : (((u[j].toNat : Nat) : Int) == 0) = false := by
          rw [beq_eq_false_iff_ne]
          intro h
          apply hc0
          apply UInt8.toNat_inj.1
          simpa using h
        clear hc0
        go_wp2_with (first
          | (at_builtin; refine wpList_appb rfl (.tmp 16) (.tmp 21) rfl w0.heap.size u3 es rfl Hown.out #[.int .u8 u[j].toNat] 1 1 [u[j]] rfl rfl rfl (by decide) ?_ hn ?_; (first | omega | (simp only [List.length_cons, List.length_nil]; omega) | (simp only [List.length_append, List.length_cons, List.length_nil]; omega)); intro v1 w1 ho1 ha1; have hn1 := Nat.le_trans hn ha1.grown.size; have hb1 := hbel.trans (Hown.out.below ha1 hn)))
        go_roundw
        case rel => exact ⟨j + 1, by omega, by go_num, by rw [Hes.out, if_neg Hc0.out]; exact ho1, hb1⟩
        case measure => simp [intOf]; omega
    · obtain rfl : j = u.size := by omega
      have hn : w0.heap.size ≤ wr.heap.size := hbel.size
      have hle := esc_le (u.data.toList.take u.size)
      have hle2 : (u.data.toList.take u.size).length ≤ u.size := List.length_take_le _ _
      have Hes : Hid (u.data.toList.take u.size = u.data.toList) := Lib.hid (List.take_of_length_le (by rw [HL.out]; exact Nat.le_refl _))
      rw [Hes.out] at hown hle hle2
      generalize hes : esc u.data.toList = es at hown hle
      have Hese := Lib.hid hes
      have Hown := Lib.hid hown
      clear hes hlt hj hown
      go_upto_region 9 with (at_builtin; refine wpList_appb rfl (.tmp 31) (.tmp 32) rfl w0.heap.size u3 es rfl Hown.out #[.int .u8 0, .int .u8 1] 2 2 [0, 1] rfl rfl rfl (by decide) ?_ hn ?_; (first | omega | (simp only [List.length_cons, List.length_nil]; omega) | (simp only [List.length_append, List.length_cons, List.length_nil]; omega)); intro v1 w1 ho1 ha1; have hn1 := Nat.le_trans hn ha1.grown.size; have hb1 := hbel.trans (Hown.out.below ha1 hn))
      obtain ⟨g, hg⟩ : ∃ g, 1099511627776 - s = g := ⟨_, rfl⟩
      have hg1 : 0 ≤ g := by omega
      have hg2 : g ≤ 1099511627776 := by omega
      have Hg := Lib.hid hg
      have Ho1 := Lib.hid ho1
      clear hg ho1
      go_wp2
      rw [Hg.out]
      go_loopw [5, 6, 7] (fun n v i wx => ∃ r : Nat, r ≤ 6 ∧ i = .int .i64 r ∧ n = .int .i64 (g / 256 ^ r) ∧ OB wx w1.heap.size v ((lows g.toNat).take r) ∧ Below w1.heap.size w1 wx) (fun _ _ i _ => 6 - (intOf i).toNat)
      case atStart => exact ⟨0, by omega, rfl, by simp, OB.nil _ _, Below.refl _ _⟩
      case round =>
        obtain ⟨r, hr, rfl, rfl, hlow, hbl⟩ := hrel
        have hn2 : w1.heap.size ≤ wr.heap.size := hbl.size
        have Hlow := Lib.hid hlow
        have Hbl := Lib.hid hbl
        clear hlow hbl
        by_cases h6 : r < 6
        · have hr6 : r = 0 ∨ r = 1 ∨ r = 2 ∨ r = 3 ∨ r = 4 ∨ r = 5 := by omega
          have hq0 : 0 ≤ g / 256 ^ r := by rcases hr6 with rfl | rfl | rfl | rfl | rfl | rfl <;> omega
          have hq1 : g / 256 ^ r ≤ 1099511627776 := by rcases hr6 with rfl | rfl | rfl | rfl | rfl | rfl <;> omega
          have hq2 : g / 256 ^ (r + 1) = g / 256 ^ r / 256 := by rcases hr6 with rfl | rfl | rfl | rfl | rfl | rfl <;> omega
          have hq3 : g / 256 ^ r % 256 = g / 2 ^ (8 * r) % 256 := by rcases hr6 with rfl | rfl | rfl | rfl | rfl | rfl <;> omega
          have hq4 : (lows g.toNat).take (r + 1) = (lows g.toNat).take r ++ [byteAt g.toNat r] := by rcases hr6 with rfl | rfl | rfl | rfl | rfl | rfl <;> rfl
          have hq5 := bvs_byteAt g r hg1 _ hq3
          have hq6 : ((lows g.toNat).take r).length = r := by rw [List.length_take]; simp only [lows, List.length_cons, List.length_nil]; omega
          clear hq3 hr6
          have Hq2 := Lib.hid hq2
          have Hq4 := Lib.hid hq4
          have Hq5 := Lib.hid hq5
          clear hq2 hq4 hq5
          generalize g / 256 ^ r = n at *
          have ht1 := tmod256 n hq0
          have ht2 := tdiv256 n hq0
          go_wp2_with (at_builtin; go_loud (refine wpList_appb rfl (.tmp 41) (.tmp 45) rfl w1.heap.size u6 ((lows g.toNat).take r) rfl Hlow.out _ 1 1 [byteAt g.toNat r] rfl ?_ rfl (by decide) ?_ hn2 ?_; (exact Hq5.out); (rw [hq6]; simp only [List.length_cons, List.length_nil]; omega); intro v2 w2 ho2 ha2))
          go_roundw
          case rel => exact ⟨r + 1, by omega, by go_num, by rw [Hq2.out], by rw [Hq4.out]; exact ho2, Hbl.out.trans (Hlow.out.below ha2 hn2)⟩
          case measure => simp [intOf]; omega
        · obtain rfl : r = 6 := by omega
          have hlow6 : OB wr w1.heap.size u6 (lows g.toNat) := Hlow.out
          have Hout := Lib.hid (Ho1.out.past Hbl.out (Nat.le_refl _))
          have Hap := Lib.hid (apart_new hlow6 Ho1.out (Nat.le_refl _))
          have Hlow6 := Lib.hid (hlow6.mono (C := w0.heap.size) (by omega))
          have hn3 : w0.heap.size ≤ wr.heap.size := by omega
          clear hlow6 h6
          obtain ⟨gl, cap, hv6, _, _, hcap6, _⟩ := Hlow6.out.form (by simp [lows])
          have hv6 : u6 = .slice (some ⟨gl, 0, none⟩) 6 cap := hv6
          have hcap6 : 6 ≤ cap := hcap6
          subst hv6
          have Hnl := Lib.hid hn3
          generalize g / 256 ^ 6 = n6
          rw [show ((6 : Nat) : Int) = 6 from rfl]
          go_wp2
          go_loopw [3, 8] (fun v i wx => ∃ r : Nat, r ≤ 6 ∧ i = .int .i64 (5 - r) ∧ OB wx w0.heap.size v (es ++ [0, 1] ++ (six g.toNat).take r) ∧ OB wx w0.heap.size (.slice (some ⟨gl, 0, none⟩) 6 cap) (lows g.toNat) ∧ ((Value.slice (some ⟨gl, 0, none⟩) 6 cap).ownBlock = none ∨ (Value.slice (some ⟨gl, 0, none⟩) 6 cap).ownBlock ≠ v.ownBlock) ∧ Below w0.heap.size wr wx) (fun _ i _ => (intOf i + 1).toNat)
          case atStart => exact ⟨0, by omega, rfl, by simpa using Hout.out, Hlow6.out, Hap.out, Below.refl _ _⟩
          case round =>
            rename_i wr0 _ _ _ _ _ _ _ _ _ _ _ _ _ _
            obtain ⟨r, hr, hi, ho3, hl3, hne3, hbl3⟩ := hrel
            have Ho3 := Lib.hid ho3
            have Hl3 := Lib.hid hl3
            have Hne3 := Lib.hid hne3
            have Hbl3 := Lib.hid hbl3
            have hn4 := Nat.le_trans Hnl.out hbl3.size
            clear ho3 hne3 hbl3
            have hr' : r = 0 ∨ r = 1 ∨ r = 2 ∨ r = 3 ∨ r = 4 ∨ r = 5 ∨ r = 6 := by omega
            rcases hr' with rfl | rfl | rfl | rfl | rfl | rfl | rfl
            · have hi : u8 = .int .i64 5 := hi
              subst hi
              have hc : wr.cell? ⟨gl, 5, none⟩ = some (.int .u8 ((byteAt g.toNat 5).toNat : Int)) := hl3.cells 5 (by simp [lows])
              clear hl3
              go_wp2_with (at_builtin; refine wpList_appb rfl (.tmp 53) (.tmp 58) rfl w0.heap.size u3 (es ++ [0, 1] ++ (six g.toNat).take 0) rfl Ho3.out #[.int .u8 (byteAt g.toNat 5).toNat] 1 1 [byteAt g.toNat 5] rfl rfl rfl (by decide) ?_ hn4 ?_; (simp only [List.length_append, List.length_cons, List.length_nil, List.length_take, six]; omega); intro v2 w2 ho2 ha2)
              go_roundw
              case rel => exact ⟨1, by omega, rfl, by simpa [six] using ho2, Hl3.out.kept ha2.grown Hne3.out, apart_next Hl3.out ha2 Hne3.out, Hbl3.out.trans (Ho3.out.below ha2 hn4)⟩
              case measure => simp [intOf]
            · have hi : u8 = .int .i64 4 := hi
              subst hi
              have hc : wr.cell? ⟨gl, 4, none⟩ = some (.int .u8 ((byteAt g.toNat 4).toNat : Int)) := hl3.cells 4 (by simp [lows])
              clear hl3
              go_wp2_with (at_builtin; refine wpList_appb rfl (.tmp 53) (.tmp 58) rfl w0.heap.size u3 (es ++ [0, 1] ++ (six g.toNat).take 1) rfl Ho3.out #[.int .u8 (byteAt g.toNat 4).toNat] 1 1 [byteAt g.toNat 4] rfl rfl rfl (by decide) ?_ hn4 ?_; (simp only [List.length_append, List.length_cons, List.length_nil, List.length_take, six]; omega); intro v2 w2 ho2 ha2)
              go_roundw
              case rel => exact ⟨2, by omega, rfl, by simpa [six] using ho2, Hl3.out.kept ha2.grown Hne3.out, apart_next Hl3.out ha2 Hne3.out, Hbl3.out.trans (Ho3.out.below ha2 hn4)⟩
              case measure => simp [intOf]
            · have hi : u8 = .int .i64 3 := hi
              subst hi
              have hc : wr.cell? ⟨gl, 3, none⟩ = some (.int .u8 ((byteAt g.toNat 3).toNat : Int)) := hl3.cells 3 (by simp [lows])
              clear hl3
              go_wp2_with (at_builtin; refine wpList_appb rfl (.tmp 53) (.tmp 58) rfl w0.heap.size u3 (es ++ [0, 1] ++ (six g.toNat).take 2) rfl Ho3.out #[.int .u8 (byteAt g.toNat 3).toNat] 1 1 [byteAt g.toNat 3] rfl rfl rfl (by decide) ?_ hn4 ?_; (simp only [List.length_append, List.length_cons, List.length_nil, List.length_take, six]; omega); intro v2 w2 ho2 ha2)
              go_roundw
              case rel => exact ⟨3, by omega, rfl, by simpa [six] using ho2, Hl3.out.kept ha2.grown Hne3.out, apart_next Hl3.out ha2 Hne3.out, Hbl3.out.trans (Ho3.out.below ha2 hn4)⟩
              case measure => simp [intOf]
            · have hi : u8 = .int .i64 2 := hi
              subst hi
              have hc : wr.cell? ⟨gl, 2, none⟩ = some (.int .u8 ((byteAt g.toNat 2).toNat : Int)) := hl3.cells 2 (by simp [lows])
              clear hl3
              go_wp2_with (at_builtin; refine wpList_appb rfl (.tmp 53) (.tmp 58) rfl w0.heap.size u3 (es ++ [0, 1] ++ (six g.toNat).take 3) rfl Ho3.out #[.int .u8 (byteAt g.toNat 2).toNat] 1 1 [byteAt g.toNat 2] rfl rfl rfl (by decide) ?_ hn4 ?_; (simp only [List.length_append, List.length_cons, List.length_nil, List.length_take, six]; omega); intro v2 w2 ho2 ha2)
              go_roundw
              case rel => exact ⟨4, by omega, rfl, by simpa [six] using ho2, Hl3.out.kept ha2.grown Hne3.out, apart_next Hl3.out ha2 Hne3.out, Hbl3.out.trans (Ho3.out.below ha2 hn4)⟩
              case measure => simp [intOf]
            · have hi : u8 = .int .i64 1 := hi
              subst hi
              have hc : wr.cell? ⟨gl, 1, none⟩ = some (.int .u8 ((byteAt g.toNat 1).toNat : Int)) := hl3.cells 1 (by simp [lows])
              clear hl3
              go_wp2_with (at_builtin; refine wpList_appb rfl (.tmp 53) (.tmp 58) rfl w0.heap.size u3 (es ++ [0, 1] ++ (six g.toNat).take 4) rfl Ho3.out #[.int .u8 (byteAt g.toNat 1).toNat] 1 1 [byteAt g.toNat 1] rfl rfl rfl (by decide) ?_ hn4 ?_; (simp only [List.length_append, List.length_cons, List.length_nil, List.length_take, six]; omega); intro v2 w2 ho2 ha2)
              go_roundw
              case rel => exact ⟨5, by omega, rfl, by simpa [six] using ho2, Hl3.out.kept ha2.grown Hne3.out, apart_next Hl3.out ha2 Hne3.out, Hbl3.out.trans (Ho3.out.below ha2 hn4)⟩
              case measure => simp [intOf]
            · have hi : u8 = .int .i64 0 := hi
              subst hi
              have hc : wr.cell? ⟨gl, 0, none⟩ = some (.int .u8 ((byteAt g.toNat 0).toNat : Int)) := hl3.cells 0 (by simp [lows])
              clear hl3
              go_wp2_with (at_builtin; refine wpList_appb rfl (.tmp 53) (.tmp 58) rfl w0.heap.size u3 (es ++ [0, 1] ++ (six g.toNat).take 5) rfl Ho3.out #[.int .u8 (byteAt g.toNat 0).toNat] 1 1 [byteAt g.toNat 0] rfl rfl rfl (by decide) ?_ hn4 ?_; (simp only [List.length_append, List.length_cons, List.length_nil, List.length_take, six]; omega); intro v2 w2 ho2 ha2)
              go_roundw
              case rel => exact ⟨6, by omega, rfl, by simpa [six] using ho2, Hl3.out.kept ha2.grown Hne3.out, apart_next Hl3.out ha2 Hne3.out, Hbl3.out.trans (Ho3.out.below ha2 hn4)⟩
              case measure => simp [intOf]
            · have hi : u8 = .int .i64 (-1) := hi
              subst hi
              clear hl3
              have hB5 : Below w0.heap.size w0 wr := hb1.trans ((Hbl.out.mono hn1).trans Hbl3.out)
              go_wp2_with (at_builtin; refine wpList_appb rfl (.tmp 60) (.tmp 65) rfl w0.heap.size u3 (es ++ [0, 1] ++ (six g.toNat).take 6) rfl Ho3.out _ 1 1 [UInt8.ofNat (255 - k).toNat] rfl ?_ rfl (by decide) ?_ hn4 ?_; (exact bvs_ofInt _ (by omega) (by omega)); (simp only [List.length_append, List.length_cons, List.length_nil, List.length_take, six]; omega); intro v9 w9 ho9 ha9)
              go_ret
              refine ⟨v9, rfl, ?_, ?_⟩
              · unfold keyBytes
                rw [Hese.out, Hg.out]
                have e6 : (six g.toNat).take 6 = six g.toNat := rfl
                rw [e6] at ho9
                exact ho9.mono hb0.size
              · exact hb0.trans ((hB5.trans (Ho3.out.below ha9 hn4)).mono hb0.size)
end Go.Proofs.YtmhklmecpbdljaaDoor
