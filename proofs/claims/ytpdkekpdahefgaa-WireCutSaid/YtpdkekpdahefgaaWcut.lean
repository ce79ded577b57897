/- The walk of WireCut. -/
import Derived.Test.YtpdkekpdahefgaaAwake02
import Derived.Test.YtpdkekpdahefgaaRdText
import Derived.Test.YtpdkekpdahefgaaInts
namespace Go.Proofs.Ytpdkekpdahefgaa
open Go.RowKit
set_option linter.unusedVariables false

/-- texts, one behind the other -/
def flat (L : List (Value × List UInt8)) : List UInt8 := L.flatMap fun x => num x.2.length ++ x.2
theorem flat_snoc (L : List (Value × List UInt8)) (k : Nat) (h : k < L.length) : flat (L.take (k + 1)) = flat (L.take k) ++ (num (L[k]).2.length ++ (L[k]).2) := by
  unfold flat; rw [List.take_succ_eq_append_getElem h, List.flatMap_append]; simp only [List.flatMap_cons, List.flatMap_nil, List.append_nil]
theorem flat_split (L : List (Value × List UInt8)) (k : Nat) : flat L = flat (L.take k) ++ flat (L.drop k) := by
  rw [flat, flat, flat, ← List.flatMap_append, List.take_append_drop]
theorem flat_drop (L : List (Value × List UInt8)) (k : Nat) (h : k < L.length) : flat (L.drop k) = num (L[k]).2.length ++ (L[k]).2 ++ flat (L.drop (k + 1)) := by
  unfold flat; rw [List.drop_eq_getElem_cons h, List.flatMap_cons]
theorem flat_len (L : List (Value × List UInt8)) : ∀ (k : Nat), k ≤ L.length → (∀ (j : Nat) (hj : j < L.length), j < k → (L[j]).2.length ≤ 300) → (flat (L.take k)).length ≤ 309 * k
  | 0, _, _ => by simp [flat]
  | k + 1, h, ha => by
    have ih := flat_len L k (by omega) (fun j hj hk => ha j hj (by omega))
    have h9 := num_len9 (n := (L[k]).2.length) (by have := ha k h (by omega); omega)
    have h3 := ha k h (by omega)
    rw [flat_snoc L k h]
    simp only [List.length_append]
    omega

/-- a text that is cut off is none -/
theorem rdText_cut (t : List UInt8) (c : Nat) (hc : c < (num t.length ++ t).length) (ht : t.length < 9223372036854775808) : rdText ((num t.length ++ t).take c) = none := by
  cases h : rdText ((num t.length ++ t).take c) with
  | none => rfl
  | some x =>
    exfalso
    obtain ⟨n, q, h1, h2, _, _⟩ := rdText_some (t := x.1) (r := x.2) h
    obtain ⟨h3, h4, _⟩ := rdNum_is _ _ _ _ _ h1
    have h5 : num t.length ++ t = num n ++ (q ++ (num t.length ++ t).drop c) := by
      have e := List.take_append_drop c (num t.length ++ t)
      rw [h3, List.append_assoc] at e
      exact e.symm
    have h6 := rdNum9_num (n := n) (by omega) (q ++ (num t.length ++ t).drop c)
    rw [← h5, rdNum9_num ht] at h6
    simp only [Option.some.injEq, Prod.mk.injEq] at h6
    obtain ⟨h7, h8⟩ := h6
    have h9 := congrArg List.length h8
    simp only [List.length_append, List.length_drop] at h9
    simp only [List.length_append] at hc
    omega

/-- how a Reader of bytes that are cut off stands behind k texts -/
def CutAt (L : List (Value × List UInt8)) (cut k : Nat) (lr : List UInt8) (bad : Bool) : Prop :=
  (bad = true ∧ cut < (flat L).length) ∨ (bad = false ∧ (flat (L.take k)).length ≤ cut ∧ lr = (flat (L.drop k)).take (cut - (flat (L.take k)).length))

theorem cut_step {L : List (Value × List UInt8)} {cut k : Nat} {lr : List UInt8} (h : CutAt L cut k lr false) (hk : k < L.length) (ht : (L[k]).2.length ≤ 300) (hcut : cut ≤ (flat L).length) :
    (rdText lr = none ∧ cut < (flat L).length) ∨ ∃ r, rdText lr = some ((L[k]).2, r) ∧ CutAt L cut (k + 1) r false := by
  rcases h with ⟨h, _⟩ | ⟨_, h1, rfl⟩
  · cases h
  · have hs := flat_split L k
    have hs2 := congrArg List.length hs
    rw [List.length_append] at hs2
    rw [flat_drop L k hk]
    have hsn := flat_snoc L k hk
    have hsn2 := congrArg List.length hsn
    rw [List.length_append] at hsn2
    by_cases hc : cut - (flat (L.take k)).length < (num (L[k]).2.length ++ (L[k]).2).length
    · left
      refine ⟨?_, ?_⟩
      · rw [List.take_append_of_le_length (by omega)]
        exact rdText_cut _ _ hc (by omega)
      · have := congrArg List.length (flat_drop L k hk)
        rw [List.length_append] at this
        omega
    · right
      refine ⟨(flat (L.drop (k + 1))).take (cut - (flat (L.take (k + 1))).length), ?_, .inr ⟨rfl, by omega, rfl⟩⟩
      rw [List.take_append, List.take_of_length_le (by omega)]
      rw [show cut - (flat (L.take k)).length - (num (L[k]).2.length ++ (L[k]).2).length = cut - (flat (L.take (k + 1))).length by omega]
      exact rdText_num _ _ (by omega)

theorem wr_new_below (w : World) : Below w.heap.size w (w.alloc (.cells #[.slice none 0 0, .bool false] 34)) := (Below.refl _ w).alloc (Nat.le_refl _) _

set_option maxRecDepth 100000 in
set_option maxHeartbeats 4000000 in
theorem wcut_any {w : World} {a : Option Addr} {c : Nat} {L : List (Value × List UInt8)} (hL : BSs w a L) (hl : L.length ≤ maxLen) (cut : Int) :
    Calls Try.prog 6 #[.slice a L.length c, .int .i64 cut] w fun e w' => e = .returned (.bool true) ∧ Below w.heap.size w w' := by
  unfold maxLen at hl
  have HL := Lib.hid hL
  clear hL
  by_cases h30 : L.length ≤ 30
  · by_cases h0 : L.length = 0
    · have h0' : ((L.length : Int) == 0) = true := by rw [beq_iff_eq]; omega
      clear h0
      go_enter Try.func6, Try.ntmps6
      go_wp2_with fail; (with_reducible refine (awake_any _).mono ?_); rintro e wa ⟨rfl, hba⟩
      go_wp2
      go_ret
      exact ⟨rfl, hba⟩
    · have h0' : ((L.length : Int) == 0) = false := by rw [beq_eq_false_iff_ne]; omega
      clear h0
      have hw0 := WR.new w
      have hb0 := wr_new_below w
      have Hw0 := Lib.hid hw0
      have Hb0 := Lib.hid hb0
      clear hw0 hb0
      go_enter Try.func6, Try.ntmps6
      go_wp2
      go_loopw [23] (fun i wr => ∃ (k : Nat) (v' : Value), k ≤ L.length ∧ i = .int .i64 k ∧ WR wr w.heap.size w.heap.size v' (flat (L.take k)) false ∧ (∀ (j : Nat) (hj : j < L.length), j < k → (L[j]).2.length ≤ 300) ∧ Below w.heap.size w wr) (fun i _ => L.length - (intOf i).toNat)
      case atStart => exact ⟨0, _, Nat.zero_le _, rfl, Hw0.out, fun j hj hk => by omega, Hb0.out⟩
      case round =>
        obtain ⟨k, v', hk, rfl, hw, hall, hbr⟩ := hrel
        have Hw := Lib.hid hw
        have Hall := Lib.hid hall
        have hz := hbr.size
        clear hw hall
        by_cases hlt : k < L.length
        · obtain ⟨b, off, ao, cc, rfl, hv, d0, hrb, hm⟩ := HL.out.cell hbr k hlt
          have Hrb := Lib.hid hrb
          unfold maxLen at hm
          by_cases h3 : (L[k]).2.length ≤ 300
          · have Hall2 : Hid (∀ (j : Nat) (hj : j < L.length), j < k + 1 → (L[j]).2.length ≤ 300) := Lib.hid fun j hj hjk => by
              by_cases e : j = k
              · subst e; exact h3
              · exact Hall.out j hj (by omega)
            have hfl := flat_len L k hk Hall.out
            have Hsn := Lib.hid (flat_snoc L k hlt)
            have hd : 0 < (L[k]).2.length → ∀ q, (Value.slice ao (L[k]).2.length cc).ownBlock = some q → ¬ fpW w.heap.size v' q := fun hp q hq hf => by
              have h1 := (HL.out.2 _ (List.getElem_mem hlt)).1
              rw [hv] at h1
              have := h1.lt0 hp q hq
              have := Hw.out.ge (Nat.le_refl _) q hf
              omega
            have ht := wtext Hw.out Hrb.out hd (by omega) hz
            have Ht := Lib.hid ht
            clear ht hd hv hrb
            generalize L[k] = x at *
            go_wp2_with fail; (with_reducible refine (Ht.out).mono ?_); rintro e w1 ⟨rfl, v1, hw1, hc1, hl1⟩
            have B1 := hbr.trans (hc1.below (fun q hq => Hw.out.ge (Nat.le_refl _) q hq) hz)
            have Hw1 := Lib.hid hw1
            clear hw1 hc1 hl1
            go_wp2
            go_roundw
            case rel => exact ⟨k + 1, v1, by omega, by go_num, by rw [Hsn.out, ← List.append_assoc]; exact Hw1.out, Hall2.out, B1⟩
            case measure => simp [intOf]; omega
          · clear hv hrb
            generalize L[k] = x at *
            go_wp2_with fail; (with_reducible refine (awake_any _).mono ?_); rintro e wa ⟨rfl, hba⟩
            go_wp2
            go_ret
            exact ⟨rfl, bnext hbr hba⟩
        · have hkl : k = L.length := by omega
          subst hkl
          have hfl := flat_len L L.length (Nat.le_refl _) Hall.out
          have Htk : Hid (L.take L.length = L) := Lib.hid (List.take_of_length_le (Nat.le_refl _))
          rw [Htk.out] at hfl
          have hw := Hw.out
          rw [Htk.out] at hw
          have hby := wbytes hw (by omega)
          have Hby := Lib.hid hby
          clear hby hw
          have hfl2 : (flat L).length ≤ 9270 := by omega
          clear hfl
          go_wp2_with fail; (with_reducible refine (Hby.out).mono ?_); rintro e w1 ⟨v1, rfl, ho1, ⟨g, rfl⟩, hb1⟩
          have hg1 := (ho1.lt (k := g) rfl).2
          have Ho1 := Lib.hid ho1
          have B1 := bnext hbr hb1
          clear ho1
          by_cases hc0 : cut < 0
          · go_wp2_with fail; (with_reducible refine (awake_any _).mono ?_); rintro e wa ⟨rfl, hba⟩
            go_wp2
            go_ret
            exact ⟨rfl, bnext B1 hba⟩
          obtain ⟨cN, rfl⟩ := Int.eq_ofNat_of_zero_le (Int.not_lt.1 hc0)
          by_cases hc1 : (flat L).length < cN
          · go_wp2_with fail; (with_reducible refine (awake_any _).mono ?_); rintro e wa ⟨rfl, hba⟩
            go_wp2
            go_ret
            exact ⟨rfl, bnext B1 hba⟩
          have hcl : cN ≤ (flat L).length := by omega
          have hrd1 := newreader_any (rb_take Ho1.out.reads hcl (Nat.le_refl _)) (by rw [List.length_take]; omega)
          have Hrd1 := Lib.hid hrd1
          clear hrd1
          go_wp2_with fail; (with_reducible refine (Hrd1.out).mono ?_); rintro e w2 ⟨p, go, rfl, hp, hgo, hrd, hb2⟩
          have Hrd := Lib.hid hrd
          have Hgo := Lib.hid hgo
          have Hc0 : Hid (CutAt L cN 0 ((flat L).take cN) false) := Lib.hid (.inr ⟨rfl, by simp [flat], by simp [flat]⟩)
          clear hrd hgo
          go_wp2
          go_loopw [62] (fun i wx => ∃ (k : Nat) (lr : List UInt8) (bad : Bool), k ≤ L.length ∧ i = .int .i64 k ∧ RD wx p go lr bad ∧ CutAt L cN k lr bad ∧ Below w1.heap.size w1 wx) (fun i _ => L.length - (intOf i).toNat)
          case atStart => exact ⟨0, _, false, Nat.zero_le _, rfl, Hrd.out, Hc0.out, hb2⟩
          case round =>
            obtain ⟨k, lr, bad, hk, rfl, hrd, hcut, hbx⟩ := hrel
            have Hrdx := Lib.hid hrd
            have Hcut := Lib.hid hcut
            clear hrd hcut
            by_cases hlt : k < L.length
            · cases bad with
              | true =>
                have Hct : Hid (cN < (flat L).length) := by
                  rcases Hcut.out with ⟨_, h⟩ | ⟨h, _⟩
                  · exact Lib.hid h
                  · cases h
                go_wp2_with fail; (with_reducible refine (rtext_bad Hrdx.out).mono ?_); rintro e w3 ⟨rfl, hrd3, hg3⟩
                have Hrd3 := Lib.hid hrd3
                have B3 := hbx.grown hg3 hbx.size (fun q hq => by cases hq; exact hp)
                clear hrd3 hg3
                go_wp2
                go_roundw
                case rel => exact ⟨k + 1, lr, true, by omega, by go_num, Hrd3.out, .inl ⟨rfl, Hct.out⟩, B3⟩
                case measure => simp [intOf]; omega
              | false =>
                rcases cut_step Hcut.out hlt (Hall.out k hlt hlt) hcl with ⟨h1, h2⟩ | ⟨r, h1, h2⟩
                · have H1 := Lib.hid h1
                  have H2 := Lib.hid h2
                  clear h1 h2
                  go_wp2_with fail; (with_reducible refine (rtext_no Hrdx.out H1.out).mono ?_); rintro e w3 ⟨rfl, ⟨l3, hrd3⟩, hg3⟩
                  have Hrd3 := Lib.hid hrd3
                  have B3 := hbx.grown hg3 hbx.size (fun q hq => by cases hq; exact hp)
                  clear hrd3 hg3
                  go_wp2
                  go_roundw
                  case rel => exact ⟨k + 1, l3, true, by omega, by go_num, Hrd3.out, .inl ⟨rfl, H2.out⟩, B3⟩
                  case measure => simp [intOf]; omega
                · have H1 := Lib.hid h1
                  have H2 := Lib.hid h2
                  clear h1 h2
                  go_wp2_with fail; (with_reducible refine (rtext_ok Hrdx.out H1.out).mono ?_); rintro e w3 ⟨a3, c3, rfl, hrb3, hrd3, hg3, _⟩
                  have Hrd3 := Lib.hid hrd3
                  have B3 := hbx.grown hg3 hbx.size (fun q hq => by cases hq; exact hp)
                  clear hrd3 hg3 hrb3
                  go_wp2
                  go_roundw
                  case rel => exact ⟨k + 1, r, false, by omega, by go_num, Hrd3.out, H2.out, B3⟩
                  case measure => simp [intOf]; omega
            · have hkl : k = L.length := by omega
              subst hkl
              have hoA := Ho1.out.past hbx (Nat.le_refl _)
              have HoA := Lib.hid hoA
              have hzA := Nat.le_trans hb1.size hbx.size
              have hzW := Nat.le_trans hbr.size hzA
              clear hoA
              go_wp2_with (at_builtin; go_loud (refine wpList_appb rfl (.tmp 67) (.tmp 68) rfl _ (.slice (some ⟨g, 0, none⟩) (flat L).length (flat L).length) (flat L) rfl HoA.out #[.int .u8 7] 1 1 [7] rfl rfl rfl (by decide) ?_ hzA ?_); (simp only [List.length_cons, List.length_nil]; omega); intro v4 w4 ho4 ha4; obtain ⟨a4, n4, c4, rfl, hm4⟩ := ho4.shape)
              have B4 := (B1.trans (hbx.mono B1.size)).trans ((HoA.out.below ha4 hzA).mono hbr.size)
              have hrd4 : RD w4 p go lr bad := Hrdx.out.chg (Chg.of_app ha4) (fun e => by have e : g = p := by simpa [Value.ownBlock] using e
                                                                                          omega) (fun q hq e => by
                have e : g = q := by simpa [Value.ownBlock] using e
                have := Hgo.out q hq
                omega)
              have Hrd4 := Lib.hid hrd4
              have hnr := newreader_any ho4.reads (by simp only [List.length_append, List.length_cons, List.length_nil]; omega)
              have Hnr := Lib.hid hnr
              clear hrd4 hnr ho4 ha4
              refine Hnr.out.mono ?_
              rintro e w5 ⟨p5, go5, rfl, hp5, hgo5, hrd5, hb5⟩
              have Hrd5 := Lib.hid hrd5
              clear hrd5
              go_wp2
              go_loopw [73] (fun i wx => ∃ (k : Nat), k ≤ L.length ∧ i = .int .i64 k ∧ RD wx p5 go5 (flat (L.drop k) ++ [7]) false ∧ Below w4.heap.size w4 wx) (fun i _ => L.length - (intOf i).toNat)
              case atStart => exact ⟨0, Nat.zero_le _, rfl, Hrd5.out, hb5⟩
              case round =>
                obtain ⟨k, hk, rfl, hrd, hby⟩ := hrel
                have Hrdy := Lib.hid hrd
                clear hrd
                by_cases hlt : k < L.length
                · have H1 : Hid (rdText (flat (L.drop k) ++ [7]) = some ((L[k]).2, flat (L.drop (k + 1)) ++ [7])) := Lib.hid (by
                    rw [flat_drop L k hlt, List.append_assoc]; exact rdText_num _ _ (by have := Hall.out k hlt hlt; omega))
                  go_wp2_with fail; (with_reducible refine (rtext_ok Hrdy.out H1.out).mono ?_); rintro e w6 ⟨a6, c6, rfl, hrb6, hrd6, hg6, _⟩
                  have Hrd6 := Lib.hid hrd6
                  have B6 := hby.grown hg6 hby.size (fun q hq => by cases hq; exact hp5)
                  clear hrd6 hg6 hrb6
                  go_wp2
                  go_roundw
                  case rel => exact ⟨k + 1, by omega, by go_num, Hrd6.out, B6⟩
                  case measure => simp [intOf]; omega
                · have hkl : k = L.length := by omega
                  subst hkl
                  have hdr : flat (L.drop L.length) ++ [7] = [7] := by rw [List.drop_length]; rfl
                  have hrdz := Hrdy.out
                  rw [hdr] at hrdz
                  have Hrdz := Lib.hid hrdz
                  have Hr0 := Lib.hid (Hrd4.out.below hby)
                  have B7 := bnext B4 hby
                  clear hrdz hdr
                  rcases Hcut.out with ⟨rfl, h8⟩ | ⟨rfl, h8, h9⟩
                  · have hne : ((cN : Int) == ((flat L).length : Int)) = false := by rw [beq_eq_false_iff_ne]; omega
                    go_wp2_with fail; (with_reducible refine (done_any Hr0.out 20 (by simp)).mono ?_); rintro e w8 ⟨rfl, hw8⟩
                    subst hw8
                    go_wp2_with fail; (with_reducible refine (bad_any Hrdz.out).mono ?_); rintro e w8 ⟨rfl, hw8⟩
                    subst hw8
                    go_wp2_with fail; (with_reducible refine (left_any Hrdz.out).mono ?_); rintro e w8 ⟨rfl, hw8⟩
                    subst hw8
                    go_wp2_with fail; (with_reducible refine (done_any Hrdz.out 20 (by simp)).mono ?_); rintro e w8 ⟨rfl, hw8⟩
                    subst hw8
                    go_wp2_with fail; (with_reducible refine (awake_any _).mono ?_); rintro e wa ⟨rfl, hba⟩
                    go_wp2
                    go_ret
                    exact ⟨rfl, bnext B7 hba⟩
                  · rw [Htk.out] at h8
                    have hne : ((cN : Int) == ((flat L).length : Int)) = true := by rw [beq_iff_eq]; omega
                    have hlr : lr = [] := by rw [h9, List.drop_length]; simp [flat]
                    have Hlr := Lib.hid hlr
                    clear h8 h9 hlr
                    go_wp2_with fail; (with_reducible refine (done_any Hr0.out 0 (by simp [Hlr.out])).mono ?_); rintro e w8 ⟨rfl, hw8⟩
                    subst hw8
                    go_wp2_with fail; (with_reducible refine (bad_any Hrdz.out).mono ?_); rintro e w8 ⟨rfl, hw8⟩
                    subst hw8
                    go_wp2_with fail; (with_reducible refine (left_any Hrdz.out).mono ?_); rintro e w8 ⟨rfl, hw8⟩
                    subst hw8
                    go_wp2_with fail; (with_reducible refine (done_any Hrdz.out 20 (by simp)).mono ?_); rintro e w8 ⟨rfl, hw8⟩
                    subst hw8
                    go_wp2_with fail; (with_reducible refine (awake_any _).mono ?_); rintro e wa ⟨rfl, hba⟩
                    go_wp2
                    go_ret
                    exact ⟨rfl, bnext B7 hba⟩
  · go_enter Try.func6, Try.ntmps6
    go_wp2_with fail; (with_reducible refine (awake_any _).mono ?_); rintro e wa ⟨rfl, hba⟩
    go_wp2
    go_ret
    exact ⟨rfl, hba⟩
end Go.Proofs.Ytpdkekpdahefgaa
