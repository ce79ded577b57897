/- SkipHeights: its walk. -/
import Derived.Test.YthpafhimmhacfaaSksi4
import Derived.Test.YthpafhimmhacfaaSkSrs
import Derived.Test.YthpafhimmhacfaaSkR
import Derived.Test.YthpafhimmhacfaaSkW
namespace Go.Proofs.Ythpafhimmhacfaa.si
open Go.RowKit
set_option linter.unusedVariables false
set_option linter.unusedSimpArgs false
set_option linter.unusedSectionVars false

section
variable {κ ν : Type} [DecidableEq κ] {lt : κ → κ → Bool}
def kv (L : List (E3 κ ν)) : List (κ × ν) := L.map fun e => (e.k, e.v)
theorem kv_keys {L L' : List (E3 κ ν)} (h : kv L = kv L') : L.map E3.k = L'.map E3.k := by
  have := congrArg (List.map Prod.fst) h
  simpa [kv, Function.comp_def] using this
theorem kv_len {L L' : List (E3 κ ν)} (h : kv L = kv L') : L.length = L'.length := by
  have := congrArg List.length h
  simpa [kv] using this
theorem kv_at {L L' : List (E3 κ ν)} (h : kv L = kv L') (i : Nat) (hi : i < L.length) (hi' : i < L'.length) : L[i].k = L'[i].k ∧ L[i].v = L'[i].v := by
  have h1 : (kv L)[i]? = (kv L')[i]? := by rw [h]
  unfold kv at h1
  rw [List.getElem?_map, List.getElem?_map, List.getElem?_eq_getElem hi, List.getElem?_eq_getElem hi'] at h1
  simpa using h1
theorem kv_put {L L' : List (E3 κ ν)} (h : kv L = kv L') (k : κ) (y : ν) (ht ht' : Nat) : kv (putE lt L k y ht) = kv (putE lt L' k y ht') := by
  have hc : cutE lt k L = cutE lt k L' := cutE_keys k (kv_keys h)
  have hh := hasE_keys k (kv_keys h) (cutE lt k L)
  have hl := kv_len h
  cases hb : hasE L (cutE lt k L) k with
  | true =>
    have hb' : hasE L' (cutE lt k L') k = true := by rw [← hc, ← hh]; exact hb
    rw [putE_has hb, putE_has hb', ← hc]
    refine List.ext_getElem (by simp [kv]; exact hl) fun i h1 h2 => ?_
    simp only [kv, List.length_map, List.length_modify] at h1 h2
    obtain ⟨e1, e2⟩ := kv_at h i h1 h2
    simp only [kv, List.getElem_map, List.getElem_modify]
    split
    · simp only [setE, e1]
    · rw [e1, e2]
  | false =>
    have hb' : hasE L' (cutE lt k L') k = false := by rw [← hc, ← hh]; exact hb
    rw [putE_no hb, putE_no hb', ← hc]
    unfold kv at h ⊢
    simp only [List.map_append, List.map_cons, List.map_take, List.map_drop, h]
theorem kv_has {L L' : List (E3 κ ν)} (h : kv L = kv L') (k : κ) : hasE L (cutE lt k L) k = hasE L' (cutE lt k L') k := by
  rw [← cutE_keys (lt := lt) k (kv_keys h), hasE_keys k (kv_keys h)]
end
theorem hI_kv {L L' : List (E3 ByteArray Int)} (h : kv L = kv L') (k : ByteArray) : hI L k = hI L' k := kv_has h k
theorem getE_at {L : List (E3 ByteArray Int)} (hr : ERise blt L) (i : Nat) (hi : i < L.length) : getE L L[i].k = i := by
  unfold getE hI cI
  rw [hasE_at blt_ord hr _ hi, if_pos rfl, cutE_at blt_ord hr _ hi]
set_option maxRecDepth 100000 in
set_option maxHeartbeats 8000000 in
theorem heights_walk {w : World} {a a' : Option Addr} {c c' : Nat} {l : List ByteArray} {l' : List Int} (h : SR5 w a l) (h' : IR w a' l') (hl : l.length ≤ maxLen) (hl' : l'.length ≤ maxLen) :
    Calls Try.prog 5 #[.slice a l.length c, .slice a' l'.length c'] w fun e w' => e = .returned (.bool true) ∧ Below w.heap.size w w' := by
  unfold maxLen at hl hl'
  have H := Lib.hid h
  have H' := Lib.hid h'
  have Hne := Lib.hid (LI.new w)
  clear h h'
  go_enter Try.func5, Try.ntmps5
  go_wp2_with fail; (with_reducible refine (Hne.out).mono ?_); rintro e w1 ⟨p, F, rfl, hL, hb1⟩
  have Hnf := Lib.hid (LI.new w1)
  have HL := Lib.hid hL
  have HB1 := Lib.hid hb1
  clear hL hb1 Hne
  go_wp2_with fail; (with_reducible refine (Hnf.out).mono ?_); rintro e w2 ⟨q, G, rfl, hM, hb2⟩
  have hL2 : LI w2 _ _ _ _ := HL.out.below hb2
  have HL2 := Lib.hid hL2
  have HM2 := Lib.hid hM
  have HB2 := Lib.hid (bnext HB1.out hb2)
  have hdj : ∀ x, F x → ¬ G x := fun x hx hg => by
    have h1 := (HL.out.ge x hx).2
    have h2 := (hM.ge x hg).1
    omega
  have HD := Lib.hid hdj
  have Hw1 : Hid (w.heap.size ≤ w1.heap.size) := Lib.hid HB1.out.size
  clear hL2 hM hb2 hdj HB1 HL Hnf
  by_cases hlc : l.length ≤ 60 ∧ l.length ≤ l'.length
  case neg =>
    have hlc2 : 60 < l.length ∨ (l.length ≤ 60 ∧ l'.length < l.length) := by omega
    clear hlc
    rcases hlc2 with hlc | ⟨hlc0, hlc⟩
    all_goals
      go_wp2_with fail; (with_reducible refine (awake05 _).mono ?_); rintro e w3 ⟨rfl, hb3⟩
      go_wp2
      go_ret
      exact ⟨rfl, bnext HB2.out hb3⟩
  obtain ⟨hlc1, hlc2⟩ := hlc
  go_wp2
  generalize decide (l'.length < l.length) = dd
  go_loopw [53] (fun i wr => ∃ (n : Nat) (L M : List (E3 ByteArray Int)) (F G : Nat → Prop), n ≤ l.length ∧ i = .int .i64 n ∧ L.length ≤ n ∧ kv L = kv M ∧ LI wr w.heap.size p F L ∧ LI wr w1.heap.size q G M ∧ (∀ x, F x → ¬ G x) ∧ Below w.heap.size w wr) (fun i _ => l.length - (intOf i).toNat)
  case atStart => exact ⟨0, [], [], F, G, Nat.zero_le _, rfl, Nat.le_refl _, rfl, HL2.out, HM2.out, HD.out, HB2.out⟩
  case round =>
    clear HL2 HM2 HD HB2
    obtain ⟨n, L, M, F, G, hn, rfl, hLn, hkv, hT, hU, hdj, hbr⟩ := hrel
    have HT := Lib.hid hT
    have HU := Lib.hid hU
    have HKV := Lib.hid hkv
    have HD := Lib.hid hdj
    have hMl := kv_len hkv
    clear hT hU hkv hdj
    by_cases hlt : n < l.length
    · obtain ⟨b, off, rfl, f0, x1⟩ := H.out.cell hbr n hlt
      obtain ⟨b', off', rfl, g0, y1, y2⟩ := H'.out.cell hbr n (by omega)
      unfold maxLen at x1
      generalize l[n] = x at *
      generalize l'[n]'(by omega) = ht at *
      by_cases hx100 : x.size ≤ 100
      case neg =>
        have hx100 : 100 < x.size := by omega
        go_wp2_with fail; (with_reducible refine (awake05 _).mono ?_); rintro e w3 ⟨rfl, hb3⟩
        go_wp2
        go_ret
        exact ⟨rfl, bnext hbr hb3⟩
      obtain ⟨m, z, z2, hm1, hm2, ez, ez2, hzc⟩ : ∃ (m : Nat) (z z2 : Int), 1 ≤ m ∧ m ≤ 12 ∧ (m : Int) = z ∧ ((13 - m : Nat) : Int) = z2 ∧ ((ht < 1 ∧ z = 1 ∧ z2 = 12) ∨ (1 ≤ ht ∧ 12 < ht ∧ z = 1 ∧ z2 = 12) ∨ (1 ≤ ht ∧ ht ≤ 12 ∧ z = ht ∧ z2 = 13 - ht)) := by
        by_cases hh : 1 ≤ ht ∧ ht ≤ 12
        · exact ⟨ht.toNat, ht, 13 - ht, by omega, by omega, by omega, by omega, .inr (.inr ⟨hh.1, hh.2, rfl, rfl⟩)⟩
        · by_cases h1 : ht < 1
          · exact ⟨1, 1, 12, by omega, by omega, rfl, rfl, .inl ⟨h1, rfl, rfl⟩⟩
          · exact ⟨1, 1, 12, by omega, by omega, rfl, rfl, .inr (.inl ⟨by omega, by omega, rfl, rfl⟩)⟩
      have hput := LI.put HT.out (by omega) x n m hm1 hm2
      rw [ez] at hput
      have Hput := Lib.hid hput
      have hput2 : ∀ W, LI W w1.heap.size q G M → Calls Try.prog 19 #[.pointer (some ⟨q, 0, none⟩), .string x, .int .i64 n, .int .i64 z2] W fun e w' => e = .returned (.tuple #[.bool (!hI L x), .int .i64 0]) ∧
          (∃ F', LI w' w1.heap.size q F' (putE blt M x n (13 - m)) ∧ ∀ y, F' y → G y ∨ W.heap.size ≤ y) ∧ Chg G W w' ∧ Below w1.heap.size W w' := fun W hW => by
        have := LI.put hW (by omega) x n (13 - m) (by omega) (by omega)
        rw [ez2, ← hI_kv HKV.out] at this
        exact this
      have Hput2 := Lib.hid hput2
      have hkp := kv_put (lt := blt) HKV.out x (n : Int) m (13 - m)
      have hlp := putE_len_le (lt := blt) L x (n : Int) m
      generalize putE blt L x (n : Int) m = L3 at *
      generalize putE blt M x (n : Int) (13 - m) = M3 at *
      generalize (!hI L x) = fr at *
      have HKP := Lib.hid hkp
      have HBR := Lib.hid hbr
      clear hput hput2 hkp ez ez2 hm1 hm2
      rcases hzc with ⟨h1, rfl, rfl⟩ | ⟨h0, h1, rfl, rfl⟩ | ⟨h0, h1, rfl, rfl⟩
      all_goals
        go_wp2_with fail; (with_reducible refine (Hput.out).mono ?_); rintro e w3 ⟨rfl, ⟨F3, hL3, hF3⟩, hch, hb3⟩
        have hU3 : LI w3 _ _ _ _ := HU.out.chg hch (fun k hg hf => HD.out k hf hg)
        have HL3 := Lib.hid hL3
        have HU3 := Lib.hid hU3
        have HB3 : Hid (Below w.heap.size w w3) := Lib.hid (HBR.out.trans hb3)
        have HD3 : Hid (∀ y, F3 y → ¬ G y) := Lib.hid fun y hy hg => by
          rcases hF3 y hy with h | h
          · exact HD.out y h hg
          · have := (HU.out.ge y hg).2; omega
        clear hL3 hU3 hF3 hch hb3 hbr
        go_wp2_with fail; (with_reducible refine (Hput2.out _ HU3.out).mono ?_); rintro e w4 ⟨rfl, ⟨G4, hM4, hG4⟩, hch, hb4⟩
        have hL4 : LI w4 _ _ _ _ := HL3.out.chg hch HD3.out
        have HL4 := Lib.hid hL4
        have HM4 := Lib.hid hM4
        have HB4 : Hid (Below w.heap.size w w4) := Lib.hid (HB3.out.trans (hb4.mono Hw1.out))
        have HD4 : Hid (∀ y, F3 y → ¬ G4 y) := Lib.hid fun y hy hg => by
          rcases hG4 y hg with h | h
          · exact HD3.out y hy h
          · have := (HL3.out.ge y hy).2; omega
        clear hL4 hM4 hG4 hch hb4
        go_wp2
        go_roundw
        case rel => exact ⟨n + 1, L3, M3, F3, G4, by omega, by go_num, by omega, HKP.out, HL4.out, HM4.out, HD4.out, HB4.out⟩
        case measure => simp [intOf]; omega
    · have hLl : L.length ≤ 999999 := by omega
      have hMl2 : M.length ≤ 999999 := by omega
      have Hka := Lib.hid (LI.keys HT.out hLl)
      have HBR := Lib.hid hbr
      clear HD
      go_wp2_with fail; (with_reducible refine (Hka.out).mono ?_); rintro e w3 ⟨u, rfl, hra, hb3⟩
      obtain ⟨aa, ca, rfl, hca, hka⟩ := keys_krs hra (by simp) (Nat.le_refl _)
      have HKA := Lib.hid hka
      have hT3 : LI w3 _ _ _ _ := HT.out.below hb3
      have hU3 : LI w3 _ _ _ _ := HU.out.below hb3
      have HT3 := Lib.hid hT3
      have HU3 := Lib.hid hU3
      have hkb := LI.keys hU3 hMl2
      rw [← kv_keys HKV.out, ← hMl] at hkb
      have Hkb := Lib.hid hkb
      have HB3 := Lib.hid (bnext HBR.out hb3)
      clear hra hka hT3 hU3 hkb hb3 hbr Hka HT HU HBR
      go_wp2_with fail; (with_reducible refine (Hkb.out).mono ?_); rintro e w4 ⟨u, rfl, hrb, hb4⟩
      obtain ⟨ab, cb, rfl, hcb, hkb⟩ := keys_krs hrb (by simp) (Nat.le_refl _)
      simp only [List.length_map] at *
      have HKB := Lib.hid hkb
      have HKA4 := Lib.hid (HKA.out.below hb4)
      have hT4 : LI w4 _ _ _ _ := HT3.out.below hb4
      have hU4 : LI w4 _ _ _ _ := HU3.out.below hb4
      have HT4 := Lib.hid hT4
      have HU4 := Lib.hid hU4
      have HB4 := Lib.hid (bnext HB3.out hb4)
      have Hla := Lib.hid (LI.len hT4 hLl)
      have hlb := LI.len hU4 hMl2
      rw [← hMl] at hlb
      have Hlb := Lib.hid hlb
      clear hrb hkb hT4 hU4 hlb hb4 Hkb HT3 HU3 HB3 HKA
      go_wp2_with fail; (with_reducible refine (Hla.out).mono ?_); rintro e w5 ⟨rfl, rfl⟩
      go_wp2_with fail; (with_reducible refine (Hlb.out).mono ?_); rintro e w4 ⟨rfl, rfl⟩
      go_wp2
      go_loopw [119] (fun i wr => ∃ n : Nat, n ≤ L.length ∧ i = .int .i64 n ∧ Below w4.heap.size w4 wr) (fun i _ => L.length - (intOf i).toNat)
      case atStart => exact ⟨0, Nat.zero_le _, rfl, Below.refl _ _⟩
      case round =>
        obtain ⟨n, hn, rfl, hbr⟩ := hrel
        have HB5 := Lib.hid (bnext HB4.out hbr)
        by_cases hlt : n < L.length
        · have hltM : n < M.length := by omega
          obtain ⟨g1, o1, rfl, d1⟩ := HKA4.out.cell hbr n (by simpa using hlt)
          obtain ⟨g2, o2, rfl, d2⟩ := HKB.out.cell hbr n (by simpa using hlt)
          rw [List.getElem_map] at d1 d2
          obtain ⟨ek, ev⟩ := kv_at HKV.out n hlt hltM
          have hT5 : LI wr _ _ _ _ := HT4.out.below hbr
          have hga := LI.get hT5 hLl L[n].k
          rw [getE_at HT4.out.rise n hlt, tvE_at hlt, tbE_true.2 hlt] at hga
          have Hga := Lib.hid hga
          have hgb : ∀ W, Below w4.heap.size w4 W → Calls Try.prog 22 #[.pointer (some ⟨q, 0, none⟩), .string L[n].k] W fun e w' => e = .returned (.tuple #[.int .i64 L[n].v, .bool true]) ∧ Below W.heap.size W w' := fun W hW => by
            have := LI.get (HU4.out.below hW) hMl2 M[n].k
            rw [getE_at HU4.out.rise n hltM, tvE_at hltM, tbE_true.2 hltM, ← ek, ← ev] at this
            exact this
          have Hgb := Lib.hid hgb
          have s1 := cell_next d1
          have s2 := cell_next d2
          have HBR5 := Lib.hid hbr
          rcases Nat.eq_zero_or_pos n with hn0 | hn0
          · have hnI : ¬ (0 : Int) < (n : Int) := by omega
            have hnJ : (n : Int) ≤ 0 := by omega
            clear hn0 ek ev hT5 hga hgb hbr hnI
            generalize L[n].k = x at *
            generalize L[n].v = y at *
            go_wp2_with fail; (with_reducible refine (Hga.out).mono ?_); rintro e w5 ⟨rfl, hb5⟩
            have t1 := s1 _ hb5
            have t2 := s2 _ hb5
            have u1 := cell_next t1
            have u2 := cell_next t2
            have HB6 := Lib.hid (bnext HBR5.out hb5)
            clear hb5 d1 d2
            go_wp2_with fail; (with_reducible refine (Hgb.out _ HB6.out).mono ?_); rintro e w6 ⟨rfl, hb6⟩
            have v1 := u1 _ hb6
            have v2 := u2 _ hb6
            have HB7 := Lib.hid (bnext HB6.out hb6)
            clear hb6 t1 t2 s1 s2 u1 u2
            go_wp2
            go_roundw
            case rel => exact ⟨n + 1, by omega, by go_num, HB7.out⟩
            case measure => simp [intOf]; omega
          · obtain ⟨j, rfl⟩ : ∃ j, n = j + 1 := ⟨n - 1, by omega⟩
            have hjl : j < L.length := by omega
            obtain ⟨g1', o1', hgg, d3⟩ := HKA4.out.cell hbr j (by simpa using hjl)
            injection hgg with hgg
            injection hgg with hg1 hg2 _
            subst hg1 hg2
            rw [List.getElem_map] at d3
            have hls := erise_at HT4.out.rise j (j + 1) hjl hlt (by omega)
            have hls1 := blt_less hls
            have hls2 := blt_less (blt_ord.asym hls)
            have hls3 : (L[j].k.toList == L[j + 1].k.toList) = false := str_diff (fun e => by rw [e, blt_ord.irrefl] at hls; cases hls)
            have hls4 : (L[j + 1].k.toList == L[j].k.toList) = false := str_diff (fun e => by rw [e, blt_ord.irrefl] at hls; cases hls)
            have hji : ((j + 1 : Nat) : Int) - 1 = (j : Int) := by omega
            have s3 := cell_next d3
            clear hn0 ek ev hT5 hga hgb hbr hls
            generalize L[j + 1].k = x at *
            generalize L[j + 1].v = y at *
            generalize L[j].k = z at *
            go_wp2_with fail; (with_reducible refine (Hga.out).mono ?_); rintro e w5 ⟨rfl, hb5⟩
            have t1 := s1 _ hb5
            have t2 := s2 _ hb5
            have t3 := s3 _ hb5
            have u1 := cell_next t1
            have u2 := cell_next t2
            have u3 := cell_next t3
            have HB6 := Lib.hid (bnext HBR5.out hb5)
            clear hb5 d1 d2 d3
            go_wp2_with fail; (with_reducible refine (Hgb.out _ HB6.out).mono ?_); rintro e w6 ⟨rfl, hb6⟩
            have v1 := u1 _ hb6
            have v2 := u2 _ hb6
            have v3 := u3 _ hb6
            have HB7 := Lib.hid (bnext HB6.out hb6)
            clear hb6 t1 t2 t3 s1 s2 s3 u1 u2 u3
            go_wp2
            go_roundw
            case rel => exact ⟨j + 2, by omega, by go_num, HB7.out⟩
            case measure => simp [intOf]; omega
        · go_wp2_with fail; (with_reducible refine (awake05 _).mono ?_); rintro e w6 ⟨rfl, hb6⟩
          go_wp2
          go_ret
          exact ⟨rfl, bnext HB5.out hb6⟩
end Go.Proofs.Ythpafhimmhacfaa.si
