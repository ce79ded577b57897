/- A device of zones: Flush, Crash. -/
import Derived.Test.YtijgbciaifdbeaaZf
namespace Go.Proofs.Ytijgbciaifdbeaa
open Go.RowKit
set_option linter.unusedVariables false
set_option linter.unusedSimpArgs false

/-- the first n have turned -/
def zpm (g : Nat → Zn → Zn) (A : List Zn) (n : Nat) : List Zn := A.mapIdx fun i x => if i < n then g i x else x
theorem zpm_len (g : Nat → Zn → Zn) (A : List Zn) (n : Nat) : (zpm g A n).length = A.length := by simp [zpm]
theorem zpm_zero (g : Nat → Zn → Zn) (A : List Zn) : zpm g A 0 = A := List.ext_getElem (by simp [zpm]) fun i h1 h2 => by simp [zpm]
theorem zpm_at (g : Nat → Zn → Zn) (A : List Zn) (n : Nat) (h : n < A.length) : (zpm g A n)[n]'(by rw [zpm_len]; exact h) = A[n] := by simp [zpm]
theorem zpm_set (g : Nat → Zn → Zn) (A : List Zn) (n : Nat) (h : n < A.length) : (zpm g A n).set n (g n A[n]) = zpm g A (n + 1) := by
  refine List.ext_getElem (by simp [zpm]) fun i h1 h2 => ?_
  rw [List.getElem_set]
  by_cases e : n = i
  · subst e; rw [if_pos rfl]; simp [zpm]
  · rw [if_neg e]
    simp only [zpm, List.getElem_mapIdx]
    by_cases h3 : i < n
    · rw [if_pos h3, if_pos (by omega)]
    · rw [if_neg h3, if_neg (by omega)]
theorem zpm_all (g : Nat → Zn → Zn) (A : List Zn) (n : Nat) (h : A.length ≤ n) : zpm g A n = A.mapIdx g := by
  refine List.ext_getElem (by simp [zpm]) fun i h1 h2 => ?_
  rw [zpm_len] at h1
  simp only [zpm, List.getElem_mapIdx]
  rw [if_pos (by omega)]
def zflz (_ : Nat) (z : Zn) : Zn := ⟨z.st, z.b, z.b.length⟩
def zflu (D : Dv) : Dv × Int := if D.down = true then (D, 74) else zthen D fun D' => { D' with A := D'.A.mapIdx zflz }
set_option maxRecDepth 100000 in
set_option maxHeartbeats 8000000 in
theorem zflush {w : World} {B p r : Nat} {Z : List Zm} {D : Dv} (h : DM w B p r Z D) (hdn : D.done < 4611686018427387904) :
    Calls Try.prog 18 #[.pointer (some ⟨p, 0, none⟩)] w fun e w' => e = .returned (.int .i64 (zflu D).2) ∧ AppOut w B p r Z (zflu D).1 w' := by
  have c6 := h.c6
  unfold zflu
  cases hd : D.down with
  | true =>
    rw [if_pos rfl]
    rw [hd] at c6
    have H := Lib.hid h
    clear h hd
    go_enter Try.func18, Try.ntmps18
    go_wp2
    go_ret
    exact ⟨rfl, AppOut.same H.out (Below.refl _ _)⟩
  | false =>
    rw [if_neg (by simp)]
    rw [hd] at c6
    unfold zthen
    have Hc := Lib.hid (zcommand h hdn)
    have H := Lib.hid h
    have hl := h.len
    clear h hd
    rcases (zcmd_two D).1 with h0 | h0
    · rw [if_pos h0]
      rw [h0] at Hc
      have hn2 := (zcmd_two D).2.2.1
      clear h0
      generalize (zcmd D).1 = D1 at *
      go_enter Try.func18, Try.ntmps18
      go_wp2_with fail; (with_reducible refine (Hc.out).mono ?_); rintro e w2 ⟨rfl, h2, hc2⟩
      have c3 := h2.c3
      have H2 := Lib.hid h2
      have HC := Lib.hid hc2
      have hln : Z.length = D1.n := by omega
      have hn64 := h2.ok.n2
      have HlA := Lib.hid h2.lenA
      have Hln := Lib.hid hln
      clear h2 hc2 hl hn2 hln c6
      go_wp2
      go_loopw [18] (fun i wr => ∃ (n : Nat) (Z' : List Zm), n ≤ D1.n ∧ i = .int .i64 n ∧ DM wr B p r Z' { D1 with A := zpm zflz D1.A n } ∧ (∀ q, fpD p r Z' q → fpD p r Z q) ∧ Chg (fpD p r Z) w2 wr) (fun i _ => D1.n - (intOf i).toNat)
      case atStart => exact ⟨0, Z, Nat.zero_le _, rfl, by rw [zpm_zero]; exact H2.out, fun q h => h, Chg.refl _ _⟩
      case round =>
        clear c3
        obtain ⟨n, Z', hn, rfl, hD, hfp, hch⟩ := hrel
        have c3 : wr.cell? ⟨p, 3, none⟩ = some (.slice (some ⟨r, 0, none⟩) D1.n D1.n) := hD.c3
        have hl' : Z'.length = D1.n := hD.len
        by_cases hlt : n < D1.n
        · have hlz : n < Z'.length := by omega
          obtain ⟨av, cv, hv, hcv⟩ := hD.v2 n hlz
          have d1 := hD.z1 n hlz
          have d2 := hD.z2 n hlz
          rw [hv] at d1
          have fz := hD.zfz (n * 3 + 2)
          have hs := hD.putFl n hlz Z'[n].z.b.length (Nat.le_refl _)
          have hz : Z'[n].z = D1.A[n]'(by rw [HlA.out]; exact hlt) := by rw [hD.at n hlz]; exact zpm_at _ _ _ _
          have e : (zpm zflz D1.A n).set n ⟨Z'[n].z.st, Z'[n].z.b, Z'[n].z.b.length⟩ = zpm zflz D1.A (n + 1) := by
            rw [← zpm_set zflz D1.A n (by rw [HlA.out]; exact hlt), hz]; rfl
          simp only [e] at hs
          have hfs := fpD_same (p := p) (r := r) (z := ⟨Z'[n].z.st, Z'[n].z.b, Z'[n].z.b.length⟩) hlz
          have hbl : Z'[n].z.b.length ≤ D1.size := (hD.zok n hlz).len
          have hs2 : D1.size ≤ 65536 := hD.ok.s2
          have HS := Lib.hid hs
          have HF := Lib.hid hfs
          have HP := Lib.hid hfp
          have HH := Lib.hid hch
          generalize Z'[n].z.b.length = bl at *
          generalize Z'[n].z.fl = fl at *
          clear hs hfs hfp hch hz e hl' hD hv
          go_upto_region 8 with (fail)
          go_region
          go_wp2
          go_roundw
          case rel => exact ⟨n + 1, _, by omega, by go_num, HS.out.below (Below.refl _ _).drew, fun q hq => HP.out q (HF.out q hq), (HH.out.trans2 (Chg.set wr r (n * 3 + 2) (.int .i64 (bl : Nat))) fun i hi h => .inr (.inl h)).trans (Chg.of_below (Below.refl _ _).drew)⟩
          case measure => simp [intOf]; omega
        · have e : zpm zflz D1.A n = D1.A.mapIdx zflz := zpm_all _ _ _ (by rw [HlA.out]; omega)
          rw [e] at hD
          have HD := Lib.hid hD
          have HP := Lib.hid hfp
          have HH := Lib.hid hch
          clear hD hfp hch e hl'
          go_wp2
          go_ret
          exact ⟨rfl, AppOut.p HC.out HD.out HH.out HP.out⟩
    · rw [if_neg (by rw [h0]; decide)]
      rw [h0] at Hc
      rw [h0]
      clear h0 hl
      generalize (zcmd D).1 = D1 at *
      go_enter Try.func18, Try.ntmps18
      go_wp2_with fail; (with_reducible refine (Hc.out).mono ?_); rintro e w2 ⟨rfl, h2, hc2⟩
      have H2 := Lib.hid h2
      have HC := Lib.hid hc2
      clear h2 hc2
      go_wp2
      go_ret
      exact ⟨rfl, AppOut.p HC.out H2.out (Chg.refl _ _) fun q hq => hq⟩
end Go.Proofs.Ytijgbciaifdbeaa
