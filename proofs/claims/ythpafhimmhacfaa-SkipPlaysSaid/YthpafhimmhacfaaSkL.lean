/- Last. -/
import Derived.Test.YthpafhimmhacfaaSkE
namespace Go.Proofs.Ythpafhimmhacfaa
open Go.RowKit
set_option linter.unusedVariables false
set_option linter.unusedSimpArgs false

set_option maxRecDepth 100000 in
set_option maxHeartbeats 4000000 in
theorem Last_ii {w : World} {B p : Nat} {v : Value} {T : List (SE Int)} (h : SK 71 74 (.int .i64) w B p v T) (hl : T.length ≤ 1000000) (hht : ∀ j (hj : j < T.length), 0 < T[j].ht) (h12 : ∀ j (hj : j < T.length), T[j].ht ≤ 12) (rk ry : Int) (rz : Bool) (hR : TellIs T (T.length - 1) rk ry rz) :
    Calls Try.prog 41 #[.pointer (some ⟨p, 0, none⟩)] w fun e w' => e = .returned (.tuple #[.int .i64 rk, .int .i64 ry, .bool rz]) ∧ Below w.heap.size w w' := by
  obtain ⟨hi2, h1, h2, h3⟩ := hR
  have hte := tell_ii h hl _ hi2 ry h2 rz h3
  rw [h1] at hte
  have Hte := Lib.hid hte
  have H := Lib.hid h
  have HT := Lib.hid hht
  obtain ⟨h0, hh0, hid0⟩ := level_room h
  clear h hte h1 h2 h3 hht
  go_enter Try.func41, Try.ntmps41
  go_wp2
  go_loopw [5, 6] (fun at' hh wr => ∃ (n i : Nat) (hi : i < T.length), n ≤ 12 ∧ hh = .int .i64 ((n : Int) - 1) ∧ at' = .int .i64 (T[i].id : Nat) ∧ n ≤ T[i].ht ∧ (∀ x (hx : x < T.length), i < x → T[x].ht ≤ n) ∧ w = wr) (fun _ hh _ => ((intOf hh) + 1).toNat)
  case atStart => exact ⟨12, 0, h0, Nat.le_refl _, by go_num, by rw [hid0]; rfl, by omega, fun x hx _ => h12 x hx, rfl⟩
  case round =>
    obtain ⟨n, i, hi, hn, rfl, rfl, hnt, hall, rfl⟩ := hrel
    have Hall := Lib.hid hall
    clear hall
    cases n with
    | zero =>
      have e : i = T.length - 1 := by
        rcases Nat.lt_or_ge (i + 1) T.length with hx | hx
        · have := Hall.out (i + 1) hx (by omega)
          have := HT.out (i + 1) hx
          omega
        · omega
      have e2 : T[T.length - 1].id = T[i].id := by simp only [← e]
      rw [e2] at Hte
      have hm1 : ((0 : Nat) : Int) - 1 = -1 := rfl
      rw [hm1]
      clear e e2
      generalize T[i].id = ii at *
      go_wp2_with fail; (with_reducible refine (Hte.out).mono ?_); rintro e w2 ⟨rfl, hb2⟩
      go_wp2
      go_ret3
      exact ⟨rfl, hb2⟩
    | succ m =>
      rw [show ((m + 1 : Nat) : Int) - 1 = (m : Int) by omega]
      have Hn := Lib.hid hnt
      obtain ⟨g, cv, hv, hc1, hc2, hid, k0, d0, d1, d2, dn⟩ := H.out.node i hi
      have hd := dn m (by omega)
      unfold maxLen at hc2
      have hm0 : (0 : Int) ≤ (m : Int) := by omega
      have hmI : (m : Int) < (T[i].ht : Int) := by omega
      clear dn d0 d1
      go_upto_region 6 with (fail)
      clear hd d2 k0
      go_loopg [5, 7] (T.length - i) (fun gk at' nn wx => ∃ (i : Nat) (hi : i < T.length), T.length - i = gk ∧ at' = .int .i64 (T[i].id : Nat) ∧ nn = .int .i64 (fid (T.drop (i + 1)) m : Nat) ∧ m < T[i].ht ∧ (∀ x (hx : x < T.length), i < x → T[x].ht ≤ m + 1) ∧ w = wx)
      case atStart => exact ⟨i, hi, rfl, rfl, rfl, by have := Hn.out; omega, Hall.out, rfl⟩
      case round =>
        clear hid hmI Hn hnt
        obtain ⟨i2, hi2', rfl, rfl, hnn, hmt, hall2, rfl⟩ := hrel
        have Hall2 := Lib.hid hall2
        clear hall2
        rcases next_cases T i2 m hi2' with ⟨j, hj, hij, hmj, hfid, hbet⟩ | ⟨hfid, hall⟩
        · rw [hfid] at hnn
          subst hnn
          have hne : T[j].id ≠ 0 := fun e => by
            have := H.out.ids 0 j h0 hj (by rw [hid0, e])
            omega
          obtain ⟨g, cv, hv, hc1, hc2, hid, k0, d0, d1, d2, dn⟩ := H.out.node j hj
          have hd := dn m hmj
          unfold maxLen at hc2
          have hne1 : ((T[j].id : Int) != 0) = true := by rw [bne_iff_ne]; omega
          have hmI : (m : Int) < (T[j].ht : Int) := by omega
          have Hmj := Lib.hid hmj
          clear dn hbet hne hfid d0 d1
          go_wp2
          go_roundg (T.length - j)
          case measure => omega
          case rel => exact ⟨j, hj, rfl, rfl, rfl, Hmj.out, fun x hx hjx => Hall2.out x hx (by omega), rfl⟩
        · rw [hfid] at hnn
          subst hnn
          have Hal := Lib.hid hall
          have Hmt := Lib.hid hmt
          clear hall hfid
          go_wp2
          go_roundw
          case rel => exact ⟨m, i2, hi2', by omega, by go_num, rfl, by omega, Hal.out, by trivial⟩
          case measure => simp [intOf]
end Go.Proofs.Ythpafhimmhacfaa
