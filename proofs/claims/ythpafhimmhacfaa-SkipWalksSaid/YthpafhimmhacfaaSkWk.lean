/- SkipWalks: its walk. -/
import Derived.Test.YthpafhimmhacfaaSkib4
import Derived.Test.YthpafhimmhacfaaSkR
import Derived.Test.YthpafhimmhacfaaSkW
namespace Go.Proofs.Ythpafhimmhacfaa.ib
open Go.RowKit
set_option linter.unusedVariables false
set_option linter.unusedSimpArgs false
set_option linter.unusedSectionVars false

section
variable {κ ν : Type} [DecidableEq κ] {lt : κ → κ → Bool}
theorem putE_vals {L : List (E3 κ ν)} {P : ν → Prop} (h : ∀ e ∈ L, P e.v) (k : κ) (y : ν) (hy : P y) (ht : Nat) : ∀ e ∈ putE lt L k y ht, P e.v := by
  cases hb : hasE L (cutE lt k L) k with
  | true =>
    rw [putE_has hb]
    intro x hx
    obtain ⟨i, hi, rfl⟩ := List.getElem_of_mem hx
    have hi' : i < L.length := by simpa using hi
    have := h _ (List.getElem_mem hi')
    rw [List.getElem_modify]
    split
    · exact hy
    · exact this
  | false =>
    rw [putE_no hb]
    intro x hx
    rcases List.mem_append.1 hx with hx | hx
    · exact h x (List.mem_of_mem_take hx)
    · rcases List.mem_cons.1 hx with rfl | hx
      · exact hy
      · exact h x (List.mem_of_mem_drop hx)
end
theorem nextE_at {L : List (E3 Int Bool)} (hr : ERise ilt L) (i : Nat) (hi : i < L.length) : nextE L L[i].k = i + 1 := by
  unfold nextE hI cI
  rw [hasE_at ilt_ord hr _ hi, if_pos rfl, cutE_at ilt_ord hr _ hi]
theorem prevE_at {L : List (E3 Int Bool)} (hr : ERise ilt L) (i : Nat) (hi : i < L.length) : prevE L L[i].k = if i = 0 then L.length else i - 1 := by
  unfold prevE cI
  rw [cutE_at ilt_ord hr _ hi]
set_option maxRecDepth 100000 in
set_option maxHeartbeats 8000000 in
theorem walks_walk {w : World} {a a' : Option Addr} {c c' : Nat} {l l' : List Int} (h : IR w a l) (h' : IR w a' l') (hl : l.length ≤ maxLen) (hl' : l'.length ≤ maxLen) :
    Calls Try.prog 7 #[.slice a l.length c, .slice a' l'.length c'] w fun e w' => e = .returned (.bool true) ∧ Below w.heap.size w w' := by
  unfold maxLen at hl hl'
  have H := Lib.hid h
  have H' := Lib.hid h'
  have Hne := Lib.hid (LI.new w)
  clear h h'
  go_enter Try.func7, Try.ntmps7
  go_wp2_with fail; (with_reducible refine (Hne.out).mono ?_); rintro e w1 ⟨p, F, rfl, hL, hb1⟩
  have HL := Lib.hid hL
  have HB1 := Lib.hid hb1
  clear hL hb1 Hne
  by_cases hlc : l.length ≤ 80 ∧ l.length ≤ l'.length
  case neg =>
    have hlc2 : 80 < l.length ∨ (l.length ≤ 80 ∧ l'.length < l.length) := by omega
    clear hlc
    rcases hlc2 with hlc | ⟨hlc0, hlc⟩
    all_goals
      go_wp2_with fail; (with_reducible refine (awake05 _).mono ?_); rintro e w2 ⟨rfl, hb2⟩
      go_wp2
      go_ret
      exact ⟨rfl, HB1.out.trans (hb2.mono HB1.out.size)⟩
  obtain ⟨hlc1, hlc2⟩ := hlc
  go_wp2
  generalize decide (l'.length < l.length) = dd
  go_loopw [39] (fun i wr => ∃ (n : Nat) (L : List (E3 Int Bool)) (F : Nat → Prop), n ≤ l.length ∧ i = .int .i64 n ∧ L.length ≤ n ∧ (∀ e ∈ L, e.v = true) ∧ LI wr w.heap.size p F L ∧ Below w.heap.size w wr) (fun i _ => l.length - (intOf i).toNat)
  case atStart => exact ⟨0, [], F, Nat.zero_le _, rfl, Nat.le_refl _, (fun x hx => by cases hx), HL.out, HB1.out⟩
  case round =>
    obtain ⟨n, L, F2, hn, rfl, hLn, hvs, hT, hbr⟩ := hrel
    have HT := Lib.hid hT
    have HV := Lib.hid hvs
    clear hT hvs
    by_cases hlt : n < l.length
    · obtain ⟨b, off, rfl, f0, x1, x2⟩ := H.out.cell hbr n hlt
      obtain ⟨b', off', rfl, g0, y1, y2⟩ := H'.out.cell hbr n (by omega)
      generalize l[n] = x at *
      generalize l'[n]'(by omega) = ht at *
      by_cases hht : 1 ≤ ht ∧ ht ≤ 12
      case neg =>
        have Hpb := Lib.hid (put_bad_ii wr p x true ht (by omega))
        clear hht
        go_wp2_with fail; (with_reducible refine (Hpb.out).mono ?_); rintro e w3 ⟨rfl, rfl⟩
        go_wp2_with fail; (with_reducible refine (awake05 _).mono ?_); rintro e w4 ⟨rfl, hb4⟩
        have HB4 := Lib.hid (bnext hbr hb4)
        go_wp2
        go_ret
        exact ⟨rfl, HB4.out⟩
      obtain ⟨hm, rfl⟩ := Int.eq_ofNat_of_zero_le (show 0 ≤ ht by omega)
      have hput := LI.put HT.out (by omega) x true hm (by omega) (by omega)
      have Hput := Lib.hid hput
      clear hput hht
      go_wp2_with fail; (with_reducible refine (Hput.out).mono ?_); rintro e w3 ⟨rfl, ⟨F3, hL3, hF3⟩, hch, hb3⟩
      have hlen := putE_len_le (lt := ilt) L x true hm
      have hvv := putE_vals (lt := ilt) (P := fun y => y = true) HV.out x true rfl hm
      generalize putE ilt L x true hm = L3 at *
      have HL3 := Lib.hid hL3
      have HVV := Lib.hid hvv
      have HB3 := Lib.hid (hbr.trans hb3)
      clear hL3 hF3 hch hvv hb3
      go_wp2
      go_roundw
      case rel => exact ⟨n + 1, L3, F3, by omega, by go_num, by omega, HVV.out, HL3.out, HB3.out⟩
      case measure => simp [intOf]; omega
    · have hLl : L.length ≤ 999999 := by omega
      have hnn : n = l.length := by omega
      clear hnn
      have Hke := Lib.hid (LI.keys HT.out hLl)
      have HBR := Lib.hid hbr
      go_wp2_with fail; (with_reducible refine (Hke.out).mono ?_); rintro e w3 ⟨u, rfl, hra, hb3⟩
      obtain ⟨aa, ca, rfl, hca, hka⟩ := keys_kr hra (by simp) (Nat.le_refl _)
      simp only [List.length_map] at *
      have HK3 := Lib.hid hka.kr
      have HB3 := Lib.hid (bnext HBR.out hb3)
      have hT3 : LI w3 _ _ _ _ := HT.out.below hb3
      have HT3 := Lib.hid hT3
      have Hfi := Lib.hid (LI.first hT3 hLl)
      have hvt : ∀ i, i < L.length → tvE L i = true := fun i hi => by rw [tvE_at hi]; exact HV.out _ (List.getElem_mem hi)
      have HVT := Lib.hid hvt
      clear hra hka hT3 hb3 hbr Hke hvt HT HV HBR
      go_wp2_with fail; (with_reducible refine (Hfi.out).mono ?_); rintro e w4 ⟨rfl, hb4⟩
      have HK4 := Lib.hid (HK3.out.below hb4)
      have HB4 := Lib.hid (bnext HB3.out hb4)
      have hT4 : LI w4 _ _ _ _ := HT3.out.below hb4
      have HT4 := Lib.hid hT4
      clear HK3 HB3 hT4 HT3 hb4 Hfi
      go_wp2
      go_loopw [68, 11, 12, 13] (fun i k v ok wr => ∃ n : Nat, n ≤ L.length ∧ i = .int .i64 n ∧ k = .int .i64 (tkE L n) ∧ v = .bool (tvE L n) ∧ ok = .bool (tbE L n) ∧ Below w4.heap.size w4 wr) (fun i _ _ _ _ => L.length - (intOf i).toNat)
      case atStart => exact ⟨0, Nat.zero_le _, rfl, rfl, rfl, rfl, Below.refl _ _⟩
      case round =>
        obtain ⟨n, hn, rfl, rfl, rfl, rfl, hbr⟩ := hrel
        by_cases hlt : n < L.length
        · obtain ⟨g1, o1, rfl, d1⟩ := HK4.out.cell hbr n (by simpa using hlt)
          have hT5 : LI wr _ _ _ _ := HT4.out.below hbr
          have hnx := LI.next hT5 hLl L[n].k
          rw [nextE_at HT4.out.rise n hlt] at hnx
          have Hnx := Lib.hid hnx
          rw [List.getElem_map] at d1
          rw [tkE_at hlt, HVT.out n hlt, tbE_true.2 hlt]
          clear hT5 hnx
          generalize L[n].k = y at *
          obtain ⟨k2, hk2⟩ : ∃ k2, tkE L (n + 1) = k2 := ⟨_, rfl⟩
          obtain ⟨v2, hv2⟩ : ∃ v2, tvE L (n + 1) = v2 := ⟨_, rfl⟩
          obtain ⟨b2, hb2⟩ : ∃ b2, tbE L (n + 1) = b2 := ⟨_, rfl⟩
          rw [hk2, hv2, hb2] at Hnx
          have HX := Lib.hid (And.intro hk2 (And.intro hv2 hb2))
          clear hk2 hv2 hb2
          go_wp2_with fail; (with_reducible refine (Hnx.out).mono ?_); rintro e w5 ⟨rfl, hb5⟩
          go_wp2
          go_roundw
          case rel => exact ⟨n + 1, by omega, by go_num, by rw [HX.out.1], by rw [HX.out.2.1], by rw [HX.out.2.2], bnext hbr hb5⟩
          case measure => simp [intOf]; omega
        · have hne : n = L.length := by omega
          have hbf : tbE L n = false := tbE_false.2 (by omega)
          rw [hbf]
          have HB5 := Lib.hid (bnext HB4.out hbr)
          have hT5 : LI wr _ _ _ _ := HT4.out.below hbr
          have HT5 := Lib.hid hT5
          have HK5 := Lib.hid (HK4.out.below hbr)
          have Hla := Lib.hid (LI.last hT5 hLl)
          generalize tkE L n = kk at *
          generalize tvE L n = vv at *
          clear hbf hbr HB4 HT4 HK4 hT5
          go_wp2_with fail; (with_reducible refine (Hla.out).mono ?_); rintro e w6 ⟨rfl, hb6⟩
          have HB6 := Lib.hid (bnext HB5.out hb6)
          have hT6 : LI w6 _ _ _ _ := HT5.out.below hb6
          have HT6 := Lib.hid hT6
          have HK6 := Lib.hid (HK5.out.below hb6)
          clear hb6 hT6 HB5 HT5 HK5 Hla
          go_wp2
          go_loopw [16, 11, 12, 13] (fun i k v ok wr => ∃ n x : Nat, n ≤ L.length ∧ i = .int .i64 ((n : Int) - 1) ∧ k = .int .i64 (tkE L x) ∧ v = .bool (tvE L x) ∧ ok = .bool (tbE L x) ∧ ((0 < n ∧ x = n - 1) ∨ (n = 0 ∧ L.length ≤ x)) ∧ Below w6.heap.size w6 wr) (fun i _ _ _ _ => (intOf i + 1).toNat)
          case atStart => exact ⟨L.length, L.length - 1, Nat.le_refl _, rfl, rfl, rfl, rfl, by omega, Below.refl _ _⟩
          case round =>
            obtain ⟨n, x, hn, rfl, rfl, rfl, rfl, hx, hbr⟩ := hrel
            cases n with
            | zero =>
              have hx0 : L.length ≤ x := by omega
              rw [tbE_false.2 hx0]
              have HB7 := Lib.hid (bnext HB6.out hbr)
              have hT7 : LI wr _ _ _ _ := HT6.out.below hbr
              have Hle := Lib.hid (LI.len hT7 hLl)
              generalize tkE L x = kx at *
              generalize tvE L x = vx at *
              rw [show ((0 : Nat) : Int) - 1 = -1 from rfl]
              clear hx hT7 hbr HB6 HT6 hx0
              go_wp2_with fail; (with_reducible refine (Hle.out).mono ?_); rintro e w8 ⟨rfl, rfl⟩
              go_wp2_with fail; (with_reducible refine (awake05 _).mono ?_); rintro e w8 ⟨rfl, hb8⟩
              have HB8 := Lib.hid (bnext HB7.out hb8)
              clear hb8
              go_wp2
              go_ret
              exact ⟨rfl, HB8.out⟩
            | succ m =>
              have hxm : x = m := by omega
              subst hxm
              have hlt2 : x < L.length := by omega
              obtain ⟨g1, o1, rfl, d1⟩ := HK6.out.cell hbr x (by simpa using hlt2)
              have hT7 : LI wr _ _ _ _ := HT6.out.below hbr
              have hpv := LI.prev hT7 hLl L[x].k
              rw [prevE_at HT6.out.rise x hlt2] at hpv
              have Hpv := Lib.hid hpv
              rw [List.getElem_map] at d1
              rw [tkE_at hlt2, HVT.out x hlt2, tbE_true.2 hlt2]
              rw [show ((x + 1 : Nat) : Int) - 1 = (x : Int) by omega]
              clear hT7 hpv hx
              generalize L[x].k = y at *
              have hz : (0 < x ∧ (if x = 0 then L.length else x - 1) = x - 1) ∨ (x = 0 ∧ L.length ≤ (if x = 0 then L.length else x - 1)) := by
                by_cases h0 : x = 0
                · rw [if_pos h0]; exact .inr ⟨h0, Nat.le_refl _⟩
                · rw [if_neg h0]; exact .inl ⟨by omega, rfl⟩
              have HZ := Lib.hid hz
              clear hz
              generalize (if x = 0 then L.length else x - 1) = z at *
              obtain ⟨k2, hk2⟩ : ∃ k2, tkE L z = k2 := ⟨_, rfl⟩
              obtain ⟨v2, hv2⟩ : ∃ v2, tvE L z = v2 := ⟨_, rfl⟩
              obtain ⟨b2, hb2⟩ : ∃ b2, tbE L z = b2 := ⟨_, rfl⟩
              rw [hk2, hv2, hb2] at Hpv
              have HX := Lib.hid (And.intro hk2 (And.intro hv2 hb2))
              clear hk2 hv2 hb2
              go_wp2_with fail; (with_reducible refine (Hpv.out).mono ?_); rintro e w8 ⟨rfl, hb8⟩
              go_wp2
              go_roundw
              case rel => exact ⟨x, z, by omega, rfl, by rw [HX.out.1], by rw [HX.out.2.1], by rw [HX.out.2.2], HZ.out, bnext hbr hb8⟩
              case measure => simp [intOf]
end Go.Proofs.Ythpafhimmhacfaa.ib
