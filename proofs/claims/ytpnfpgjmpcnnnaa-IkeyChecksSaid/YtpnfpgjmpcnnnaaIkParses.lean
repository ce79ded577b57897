/- IkeyParses: its walk. -/
import Derived.Test.YtpnfpgjmpcnnnaaParsePl
import Derived.Test.YtpnfpgjmpcnnnaaLess
import Derived.Test.YtpnfpgjmpcnnnaaAwake
namespace Go.Proofs.Ytpnfpgjmpcnnnaa
open Go.RowKit
set_option linter.unusedVariables false

def ParseOut2 (w : World) (l : List UInt8) (e : Ending) (w' : World) : Prop :=
  Below w.heap.size w w' ∧
  ((∃ (u : ByteArray) (s k : Int), keyRight u s k = true ∧ keyBytes u.data.toList s k = l ∧ e = .returned (.tuple #[.agg #[.string u, .int .i64 s, .int .i64 k], .int .i64 0])) ∨
   ((∀ (u : ByteArray) (s k : Int), keyRight u s k = true → keyBytes u.data.toList s k ≠ l) ∧ e = .returned (.tuple #[.agg #[.string ⟨#[]⟩, .int .i64 0, .int .i64 0], .int .i64 30])))

theorem parse2 {w : World} {ao : Option Addr} {c : Nat} {l : List UInt8} (h : RB w (.slice ao l.length c) l) (hl : l.length ≤ 140737488355327) :
    Calls Try.prog 24 #[.slice ao l.length c] w (ParseOut2 w l) := by
  refine (parse_any h hl).mono ?_
  rintro e w' ⟨hb, ⟨u, r, a, k, h1, h2, h3, rfl⟩ | ⟨h1, rfl⟩⟩
  · exact ⟨hb, .inl ⟨_, _, _, h3, (parse_plain h1 h2).symm, rfl⟩⟩
  · refine ⟨hb, .inr ⟨fun u s k hr he => ?_, rfl⟩⟩
    subst he
    have hr' := hr
    simp only [keyRight, decide_eq_true_eq] at hr'
    obtain ⟨_, _, h3, h4, h5, h6⟩ := hr'
    obtain ⟨r, e1, e2⟩ := parse_back (u := u.data.toList) h3 h4 h5 h6
    have hf := h1 _ _ _ _ e1 e2
    have e3 : (1099511627776 - ((1099511627776 - s).toNat : Int)) = s := by omega
    have e4 : (255 - ((255 - k).toNat : Int)) = k := by omega
    rw [e3, e4] at hf
    have e5 : (⟨u.data.toList.toArray⟩ : ByteArray) = u := rfl
    rw [e5, hr] at hf
    cases hf

theorem below_of_alloc {w w' : World} {o : Obj} (h : w.alloc o = w') : Below w.heap.size w w' := h ▸ (Below.refl _ w).alloc (Nat.le_refl _) _

set_option maxRecDepth 100000 in
set_option maxHeartbeats 2000000 in
theorem parses_any {w : World} {ao : Option Addr} {c : Nat} {l : List UInt8} (h : RB w (.slice ao l.length c) l) (hl : l.length ≤ maxLen) :
    Calls Try.prog 9 #[.slice ao l.length c] w fun e w' => e = .returned (.bool true) ∧ Below w.heap.size w w' := by
  by_cases hs : l.length ≤ 1000
  · have hp := parse2 h (by omega)
    have Hp := Lib.hid hp
    have H := Lib.hid h
    clear h hp
    go_enter Try.func9, Try.ntmps9
    go_upto_region 3 with fail
    go_upto_region 4 with (go_at_call 24; (with_reducible refine (Hp.out).mono ?_); rintro e w1 ⟨hb, ⟨u, s, k, h1, h2, rfl⟩ | ⟨h1, rfl⟩⟩)
    · refine gen_wp (fun w' => Below w.heap.size w w' ∧ w'.cell? ⟨w1.heap.size, 0, none⟩ = some (.string u) ∧ w'.cell? ⟨w1.heap.size, 1, none⟩ = some (.int .i64 s) ∧ w'.cell? ⟨w1.heap.size, 2, none⟩ = some (.int .i64 k)) ?_ ?_
      · refine ⟨hb.alloc hb.size _, ?_, ?_, ?_⟩
        all_goals go_simp
      rintro w0 ⟨hb0, c0, c1, c2⟩
      have s0 := cell_next c0
      have s1 := cell_next c1
      have s2 := cell_next c2
      have r0 := Lib.hid (H.out.below hb0)
      have H1 := Lib.hid h1
      have H2 := Lib.hid h2
      have B0 := Below.refl w0.heap.size w0
      clear h1 h2 hb
      go_wp2_with (first
        | (go_at_call 17; (with_reducible refine (keybytes u s k _ H1.out).mono ?_); rintro e w6 ⟨v6, rfl, ho6, hb6⟩; have B6 := bnext B0 hb6; have Ho6 := Lib.hid ho6; clear ho6)
        | (go_at_call 22; (with_reducible refine (check_ok u s k _ H1.out).mono ?_); rintro e w7 ⟨rfl, hw7⟩; have hb7 := below_of_alloc hw7; have B7 := bnext B6 hb7; have r6 := Lib.hid (ob_reads Ho6.out hb7); have r1 := Lib.hid (r0.out.below B7); clear hw7)
        | (go_at_call 19; (with_reducible refine (same_b r1.out r6.out true (by rw [beq_iff_eq]; exact H2.out.symm)).mono ?_); rintro e wa ⟨rfl, hba⟩; have Ba := bnext B7 hba)
        | (go_at_call 11; (with_reducible refine (awake_any _).mono ?_); rintro e wb ⟨rfl, hbb⟩; have Bb := bnext Ba hbb))
      go_ret
      exact ⟨rfl, hb0.trans (Bb.mono hb0.size)⟩
    · refine gen_wp (fun w' => Below w.heap.size w w' ∧ w'.cell? ⟨w1.heap.size, 0, none⟩ = some (.string ⟨#[]⟩) ∧ w'.cell? ⟨w1.heap.size, 1, none⟩ = some (.int .i64 0) ∧ w'.cell? ⟨w1.heap.size, 2, none⟩ = some (.int .i64 0)) ?_ ?_
      · refine ⟨hb.alloc hb.size _, ?_, ?_, ?_⟩
        all_goals go_simp
      rintro w0 ⟨hb0, c0, c1, c2⟩
      have s0 := cell_next c0
      have s1 := cell_next c1
      have s2 := cell_next c2
      have heq : ∀ w, (binOp .eql 23 (.agg #[.string ⟨#[]⟩, .int .i64 0, .int .i64 0]) (.agg #[.string ⟨#[]⟩, .int .i64 0, .int .i64 0])).run Try.prog w = .ok (.bool true) w := by
        intro w; rw [eqKey, show keq ⟨#[]⟩ 0 0 ⟨#[]⟩ 0 0 = true by simp [keq]]
      have hG := ksG
      have B0 := Below.refl w0.heap.size w0
      clear h1 hb
      go_wp2_with (go_at_call 11; (with_reducible refine (awake_any _).mono ?_); rintro e wb ⟨rfl, hbb⟩; have Bb := bnext B0 hbb)
      go_ret
      exact ⟨rfl, hb0.trans (Bb.mono hb0.size)⟩
  · unfold maxLen at hl
    clear h
    go_enter Try.func9, Try.ntmps9
    have B0 := Below.refl w.heap.size w
    go_wp2_with (go_at_call 11; (with_reducible refine (awake_any _).mono ?_); rintro e wb ⟨rfl, hbb⟩; have Bb := bnext B0 hbb)
    go_ret
    exact ⟨rfl, Bb⟩
end Go.Proofs.Ytpnfpgjmpcnnnaa
