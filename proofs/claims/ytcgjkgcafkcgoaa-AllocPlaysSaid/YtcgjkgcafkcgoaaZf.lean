/- A device of zones: Reset, Finish. -/
import Derived.Test.YtcgjkgcafkcgoaaZd
namespace Go.Proofs.Ytcgjkgcafkcgoaa
open Go.RowKit
set_option linter.unusedVariables false
set_option linter.unusedSimpArgs false

theorem zcmd_two (D : Dv) : ((zcmd D).2 = 0 ∨ (zcmd D).2 = 74) ∧ (zcmd D).1.A = D.A ∧ (zcmd D).1.n = D.n ∧ (zcmd D).1.size = D.size ∧ (zcmd D).1.op = D.op := by
  unfold zcmd
  split
  · exact ⟨.inr rfl, rfl, rfl, rfl, rfl⟩
  · exact ⟨.inl rfl, rfl, rfl, rfl, rfl⟩
/-- a command, and what is done where there was power -/
def zthen (D : Dv) (f : Dv → Dv) : Dv × Int := if (zcmd D).2 = 0 then (f (zcmd D).1, 0) else zcmd D
def zrst (D : Dv) (z : Int) : Dv × Int := if zfnd D z ≠ 0 then (D, zfnd D z) else zthen D fun D' => { D' with A := D'.A.set z.toNat ⟨0, [], 0⟩ }
def zfin (D : Dv) (z : Int) : Dv × Int :=
  if zfnd D z ≠ 0 then (D, zfnd D z) else if h : z.toNat < D.A.length then (if D.A[z.toNat].st = 0 then (D, 71) else zthen D fun D' => { D' with A := D'.A.set z.toNat ⟨2, D.A[z.toNat].b, D.A[z.toNat].fl⟩ }) else (D, 70)
theorem AppOut.p {w w' w2 : World} {B p r : Nat} {Z Z' : List Zm} {D' : Dv} (h : Chg (fun k => k = p) w w') (hD : DM w2 B p r Z' D') (hc : Chg (fpD p r Z) w' w2) (hZ : ∀ q, fpD p r Z' q → fpD p r Z q) : AppOut w B p r Z D' w2 :=
  ⟨⟨Z', hD, fun k hk => .inl (hZ k hk)⟩, (h.mono fun k e => .inl e).trans2 hc fun i hi h => h⟩
set_option maxRecDepth 100000 in
set_option maxHeartbeats 8000000 in
theorem zreset {w : World} {B p r : Nat} {Z : List Zm} {D : Dv} (h : DM w B p r Z D) (hdn : D.done < 4611686018427387904) (z : Int) :
    Calls Try.prog 34 #[.pointer (some ⟨p, 0, none⟩), .int .i64 z] w fun e w' => e = .returned (.int .i64 (zrst D z).2) ∧ AppOut w B p r Z (zrst D z).1 w' := by
  rcases zcases D z with hz | ⟨hd, k, rfl, hm⟩
  · have Hf := Lib.hid (zfind_bad h z hz)
    have e : zrst D z = (D, zfnd D z) := if_pos (zfnd_ne hz).1
    rw [e]
    obtain ⟨_, he⟩ := zfnd_ne hz
    have H := Lib.hid h
    clear hz h e
    generalize zfnd D z = e0 at *
    rcases he with rfl | rfl
    all_goals
      go_enter Try.func34, Try.ntmps34
      go_wp2_with fail; (with_reducible refine (Hf.out).mono ?_); rintro e w ⟨rfl, rfl⟩
      go_wp2
      go_ret
      exact ⟨rfl, AppOut.same H.out (Below.refl _ _)⟩
  · have Hf := Lib.hid (zfind_in h k hd hm)
    have hlz : k < Z.length := by rw [h.len]; exact hm
    have e : zrst D k = zthen D fun D' => { D' with A := D'.A.set k ⟨0, [], 0⟩ } := if_neg (by rw [zfnd_in hd hm]; simp)
    rw [e]
    unfold zthen
    have Hc := Lib.hid (zcommand h hdn)
    have H := Lib.hid h
    clear h e hd
    rcases (zcmd_two D).1 with h0 | h0
    · rw [if_pos h0]
      rw [h0] at Hc
      clear h0
      generalize (zcmd D).1 = D1 at *
      go_enter Try.func34, Try.ntmps34
      go_wp2_with fail; (with_reducible refine (Hf.out).mono ?_); rintro e w ⟨rfl, rfl⟩
      go_wp2_with fail; (with_reducible refine (Hc.out).mono ?_); rintro e w2 ⟨rfl, h2, hc2⟩
      obtain ⟨d0, d1, d2⟩ := zrow_at Z k hlz
      have hl2 := h2.len
      rw [← World.ownsRow.cellAt h2.row _ (by omega)] at d0 d1 d2
      have f0 := h2.zfz (k * 3)
      have f1 := h2.zfz (k * 3 + 1)
      have f2 := h2.zfz (k * 3 + 2)
      have H2 := Lib.hid h2
      have HC := Lib.hid hc2
      clear h2 hc2
      go_wp2
      go_ret
      exact ⟨rfl, AppOut.p HC.out (H2.out.putR k hlz) ((((Chg.set w2 r _ _).trans (Chg.set _ r _ _)).trans (Chg.set _ r _ _)).mono fun q hq => .inr (.inl hq)) fun q hq => by
        rcases fpD_set hlz hq with h1 | h1
        · exact h1
        · simp [Value.ownBlock] at h1⟩
    · rw [if_neg (by rw [h0]; decide)]
      rw [h0] at Hc
      rw [h0]
      clear h0
      generalize (zcmd D).1 = D1 at *
      go_enter Try.func34, Try.ntmps34
      go_wp2_with fail; (with_reducible refine (Hf.out).mono ?_); rintro e w ⟨rfl, rfl⟩
      go_wp2_with fail; (with_reducible refine (Hc.out).mono ?_); rintro e w2 ⟨rfl, h2, hc2⟩
      have H2 := Lib.hid h2
      have HC := Lib.hid hc2
      clear h2 hc2
      go_wp2
      go_ret
      exact ⟨rfl, AppOut.p HC.out H2.out (Chg.refl _ _) fun q hq => hq⟩
end Go.Proofs.Ytcgjkgcafkcgoaa
