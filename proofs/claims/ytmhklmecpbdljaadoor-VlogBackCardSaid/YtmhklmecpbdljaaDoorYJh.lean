/- Texts joined: RdNum, RdText. -/
import Derived.Test.YtmhklmecpbdljaaDoorYNum
import Derived.Test.YtmhklmecpbdljaaDoorYRdMore
/- Contracts of wire.Reader: Number, Text, Left, Bad. -/

namespace Go.Proofs.YtmhklmecpbdljaaDoor
open Go.RowKit
set_option linter.unusedVariables false

theorem left_any {w : World} {p : Nat} {go : Option Nat} {l : List UInt8} {bad : Bool} (h : RD w p go l bad) :
    Calls Tryd.prog 65 #[.pointer (some ⟨p, 0, none⟩)] w fun e w' => e = .returned (.int .i64 l.length) ∧ w = w' := by
  obtain ⟨v, hp, hrb, ⟨ao, n0, c, rfl, hm⟩, hgo, hg⟩ := h
  have hlen := hrb.len
  subst hlen
  obtain ⟨k0, k1, f0, f1⟩ := cell_two hp
  unfold maxLen at hm
  clear hp hrb hgo hg
  go_enter Tryd.func65, Tryd.ntmps65
  go_wp2
  go_ret
  exact ⟨rfl, rfl⟩
theorem bad_any {w : World} {p : Nat} {go : Option Nat} {l : List UInt8} {bad : Bool} (h : RD w p go l bad) :
    Calls Tryd.prog 64 #[.pointer (some ⟨p, 0, none⟩)] w fun e w' => e = .returned (.bool bad) ∧ w = w' := by
  obtain ⟨v, hp, hrb, ⟨ao, n0, c, rfl, hm⟩, hgo, hg⟩ := h
  obtain ⟨k0, k1, f0, f1⟩ := cell_two hp
  clear hp hrb hgo hg
  go_enter Tryd.func64, Tryd.ntmps64
  go_wp2
  go_ret
  exact ⟨rfl, rfl⟩

/-- a number was read, or the Reader is bad -/
def NumOut (w : World) (p : Nat) (go : Option Nat) (o : Option (Nat × List UInt8)) (e : Ending) (w' : World) : Prop :=
  w.grownBy w' (some p) ∧
  match o with
  | some (n, r) => e = .returned (.int .i64 n) ∧ RD w' p go r false
  | none => e = .returned (.int .i64 0) ∧ ∃ l', RD w' p go l' true

theorem NumOut.no {w w' : World} {p : Nat} {go : Option Nat} {o : Option (Nat × List UInt8)} {l : List UInt8} (ho : o = none) (hg : w.grownBy w' (some p)) (h : RD w' p go l true) : NumOut w p go o (.returned (.int .i64 0)) w' := by
  subst ho; exact ⟨hg, rfl, l, h⟩
theorem NumOut.yes {w w' : World} {p : Nat} {go : Option Nat} {o : Option (Nat × List UInt8)} {n : Nat} {r : List UInt8} {z : Int} (ho : o = some (n, r)) (hg : w.grownBy w' (some p)) (h : RD w' p go r false) (hz : z = n) : NumOut w p go o (.returned (.int .i64 z)) w' := by
  subst ho; subst hz; exact ⟨hg, rfl, h⟩

theorem bits_or_sum (k a b : Nat) (ha : a < 2 ^ k) (hb : 2 ^ k * b + a < 9223372036854775808) : bits .or .i64 (a : Int) ((2 ^ k * b : Nat) : Int) = ((a + 2 ^ k * b : Nat) : Int) := by
  have hs : a ||| 2 ^ k * b = a + 2 ^ k * b := by
    have := Nat.two_pow_add_eq_or_of_lt (i := k) (b := a) ha b
    rw [Nat.or_comm, ← this]; omega
  have h1 : (BitVec.ofInt 64 (a : Int)).toNat = a := by
    rw [BitVec.ofInt_natCast, BitVec.toNat_ofNat]; exact Nat.mod_eq_of_lt (by omega)
  have h2 : (BitVec.ofInt 64 ((2 ^ k * b : Nat) : Int)).toNat = 2 ^ k * b := by
    rw [BitVec.ofInt_natCast, BitVec.toNat_ofNat]; exact Nat.mod_eq_of_lt (by omega)
  show IntKind.i64.wrap ((BitVec.ofInt 64 (a : Int) ||| BitVec.ofInt 64 ((2 ^ k * b : Nat) : Int)).toNat : Int) = _
  rw [BitVec.toNat_or, h1, h2, hs, IntKind.wrap_i64]
  omega

theorem and127 (c : UInt8) : bits .and .u8 (c.toNat : Int) 127 = ((c.toNat % 128 : Nat) : Int) := by
  have h : ∀ x : Fin 256, bits .and .u8 ((x.val : Nat) : Int) 127 = ((x.val % 128 : Nat) : Int) := by decide +kernel
  exact h ⟨c.toNat, c.toNat_lt⟩

set_option maxRecDepth 100000 in
set_option maxHeartbeats 4000000 in
theorem rnumber {w : World} {p : Nat} {go : Option Nat} {l : List UInt8} (h : RD w p go l false) :
    Calls Tryd.prog 47 #[.pointer (some ⟨p, 0, none⟩)] w (NumOut w p go (rdNum 9 true l)) := by
  have H := Lib.hid h
  clear h
  go_enter Tryd.func47, Tryd.ntmps47
  go_wp2
  go_loopw [3, 6] (fun n i wr => ∃ (j N : Nat) (lj : List UInt8), j ≤ 9 ∧ i = .int .i64 j ∧ n = .int .i64 N ∧ N < 128 ^ j ∧ RD wr p go lj false ∧ w.grownBy wr (some p) ∧ rdNum 9 true l = upon N (128 ^ j) (rdNum (9 - j) (decide (j = 0)) lj)) (fun _ i _ => 9 - (intOf i).toNat)
  case atStart => exact ⟨0, 0, l, by omega, rfl, rfl, by decide, H.out, World.grownBy.refl _ _, (upon_start _).symm⟩
  case round =>
    obtain ⟨j, N, lj, hj, rfl, rfl, hN, hrd, hgr, heq⟩ := hrel
    have Hrd := Lib.hid hrd
    have Hgr := Lib.hid hgr
    have Heq := Lib.hid heq
    clear hrd hgr heq
    have hj' : j = 9 ∨ j = 0 ∨ j = 1 ∨ j = 2 ∨ j = 3 ∨ j = 4 ∨ j = 5 ∨ j = 6 ∨ j = 7 ∨ j = 8 := by omega
    rcases hj' with rfl | rfl | rfl | rfl | rfl | rfl | rfl | rfl | rfl | rfl
    · obtain ⟨v1, hp1, _⟩ := id Hrd.out
      obtain ⟨k0, k1, f0, f1⟩ := cell_two hp1
      clear hp1
      go_wp2
      go_ret
      exact NumOut.no (by rw [Heq.out]; rfl) (Hgr.out.trans (grown_set _ _ _ _)) Hrd.out.setBad
    · cases lj with
      | nil =>
        have Hn : Hid (rdNum 9 true l = none) := Lib.hid (by rw [Heq.out, rdNum_nil]; rfl)
        clear Heq
        go_wp2_with fail
        refine (byte_bad Hrd.out (.inr rfl)).mono ?_
        rintro e w1 ⟨rfl, hrd1, hgr1⟩
        obtain ⟨v1, hp1, _⟩ := id hrd1
        obtain ⟨k0, k1, f0, f1⟩ := cell_two hp1
        have Hrd1 := Lib.hid hrd1
        have Hgr1 := Lib.hid hgr1
        clear hp1 hrd1 hgr1
        go_wp2
        go_ret
        exact NumOut.no Hn.out (Hgr.out.trans Hgr1.out) Hrd1.out
      | cons c t =>
        have heq : rdNum 9 true l = upon N 1 (rdNum (8 + 1) true (c :: t)) := Heq.out
        clear Heq
        have Heq := Lib.hid heq
        have hN : N < 1 := hN
        clear heq
        go_wp2_with fail
        refine (byte_ok Hrd.out).mono ?_
        rintro e w1 ⟨rfl, hrd1, hgr1⟩
        obtain ⟨v1, hp1, _⟩ := id hrd1
        obtain ⟨k0, k1, f0, f1⟩ := cell_two hp1
        have Hrd1 := Lib.hid hrd1
        have Hgr1 := Lib.hid hgr1
        clear hp1 hrd1 hgr1
        have ha := and127 c
        have hct := c.toNat_lt
        by_cases h1 : c.toNat < 128
        · by_cases h0 : c.toNat = 0
          · have hc0 : c = 0 := UInt8.toNat_inj.1 h0
            subst hc0
            have H0 : Hid (rdNum 9 true l = some (N, t)) := Lib.hid (by rw [Heq.out]; simp [rdNum, upon])
            clear h0 h1 ha
            have hz : bits .and .u8 0 127 = 0 := by decide
            have hb0 := bits_or_sum 0 N 0 hN (by omega)
            have hb : bits .or .i64 (N : Int) 0 = N := by simpa using hb0
            clear hb0
            go_wp2
            go_ret
            exact NumOut.yes H0.out (Hgr.out.trans Hgr1.out) Hrd1.out rfl
          · have H0 : Hid (rdNum 9 true l = some (N + 1 * c.toNat, t)) := Lib.hid (by rw [Heq.out, rdNum_last h1 (.inl h0)]; rfl)
            have hne : ((c.toNat : Int) == 0) = false := by rw [beq_eq_false_iff_ne]; omega
            have hb := bits_or_sum 0 N c.toNat hN (by omega)
            have Hb := Lib.hid hb
            have Hm : Hid ((c.toNat : Int) % 128  = ((2 ^ 0 * c.toNat : Nat) : Int)) := Lib.hid (by omega)
            clear h0 hb
            go_wp2
            go_ret
            exact NumOut.yes H0.out (Hgr.out.trans Hgr1.out) Hrd1.out (by rw [Hm.out, Hb.out])
        · have H0 : Hid (rdNum 9 true l = upon (N + 1 * (c.toNat % 128)) 128 (rdNum 8 false t)) := Lib.hid (by rw [Heq.out, rdNum_more (by omega), upon_next])
          have hne : ((c.toNat : Int) == 0) = false := by rw [beq_eq_false_iff_ne]; omega
          have hb := bits_or_sum 0 N (c.toNat % 128) hN (by omega)
          have Hb := Lib.hid hb
          have Hm : Hid ((c.toNat : Int) % 128  = ((2 ^ 0 * (c.toNat % 128) : Nat) : Int)) := Lib.hid (by omega)
          clear hb
          go_wp2
          go_roundw
          case rel => exact ⟨1, N + 1 * (c.toNat % 128), t, by omega, rfl, by rw [Hm.out, Hb.out], by omega, Hrd1.out, Hgr.out.trans Hgr1.out, H0.out⟩
          case measure => simp [intOf]
    · cases lj with
      | nil =>
        have Hn : Hid (rdNum 9 true l = none) := Lib.hid (by rw [Heq.out, rdNum_nil]; rfl)
        clear Heq
        go_wp2_with fail
        refine (byte_bad Hrd.out (.inr rfl)).mono ?_
        rintro e w1 ⟨rfl, hrd1, hgr1⟩
        obtain ⟨v1, hp1, _⟩ := id hrd1
        obtain ⟨k0, k1, f0, f1⟩ := cell_two hp1
        have Hrd1 := Lib.hid hrd1
        have Hgr1 := Lib.hid hgr1
        clear hp1 hrd1 hgr1
        go_wp2
        go_ret
        exact NumOut.no Hn.out (Hgr.out.trans Hgr1.out) Hrd1.out
      | cons c t =>
        have heq : rdNum 9 true l = upon N 128 (rdNum (7 + 1) false (c :: t)) := Heq.out
        clear Heq
        have Heq := Lib.hid heq
        have hN : N < 128 := hN
        clear heq
        go_wp2_with fail
        refine (byte_ok Hrd.out).mono ?_
        rintro e w1 ⟨rfl, hrd1, hgr1⟩
        obtain ⟨v1, hp1, _⟩ := id hrd1
        obtain ⟨k0, k1, f0, f1⟩ := cell_two hp1
        have Hrd1 := Lib.hid hrd1
        have Hgr1 := Lib.hid hgr1
        clear hp1 hrd1 hgr1
        have ha := and127 c
        have hct := c.toNat_lt
        by_cases h1 : c.toNat < 128
        · by_cases h0 : c.toNat = 0
          · have hc0 : c = 0 := UInt8.toNat_inj.1 h0
            subst hc0
            have H0 : Hid (rdNum 9 true l = none) := Lib.hid (by rw [Heq.out]; simp [rdNum, upon])
            clear h0 h1 ha
            have hz : bits .and .u8 0 127 = 0 := by decide
            have hb0 := bits_or_sum 7 N 0 hN (by omega)
            have hb : bits .or .i64 (N : Int) 0 = N := by simpa using hb0
            clear hb0
            go_wp2
            go_ret
            exact NumOut.no H0.out ((Hgr.out.trans Hgr1.out).trans (grown_set _ _ _ _)) Hrd1.out.setBad
          · have H0 : Hid (rdNum 9 true l = some (N + 128 * c.toNat, t)) := Lib.hid (by rw [Heq.out, rdNum_last h1 (.inl h0)]; rfl)
            have hne : ((c.toNat : Int) == 0) = false := by rw [beq_eq_false_iff_ne]; omega
            have hb := bits_or_sum 7 N c.toNat hN (by omega)
            have Hb := Lib.hid hb
            have Hm : Hid ((c.toNat : Int) % 128 * 128 = ((2 ^ 7 * c.toNat : Nat) : Int)) := Lib.hid (by omega)
            clear h0 hb
            go_wp2
            go_ret
            exact NumOut.yes H0.out (Hgr.out.trans Hgr1.out) Hrd1.out (by rw [Hm.out, Hb.out])
        · have H0 : Hid (rdNum 9 true l = upon (N + 128 * (c.toNat % 128)) 16384 (rdNum 7 false t)) := Lib.hid (by rw [Heq.out, rdNum_more (by omega), upon_next])
          have hne : ((c.toNat : Int) == 0) = false := by rw [beq_eq_false_iff_ne]; omega
          have hb := bits_or_sum 7 N (c.toNat % 128) hN (by omega)
          have Hb := Lib.hid hb
          have Hm : Hid ((c.toNat : Int) % 128 * 128 = ((2 ^ 7 * (c.toNat % 128) : Nat) : Int)) := Lib.hid (by omega)
          clear hb
          go_wp2
          go_roundw
          case rel => exact ⟨2, N + 128 * (c.toNat % 128), t, by omega, rfl, by rw [Hm.out, Hb.out], by omega, Hrd1.out, Hgr.out.trans Hgr1.out, H0.out⟩
          case measure => simp [intOf]
    · cases lj with
      | nil =>
        have Hn : Hid (rdNum 9 true l = none) := Lib.hid (by rw [Heq.out, rdNum_nil]; rfl)
        clear Heq
        go_wp2_with fail
        refine (byte_bad Hrd.out (.inr rfl)).mono ?_
        rintro e w1 ⟨rfl, hrd1, hgr1⟩
        obtain ⟨v1, hp1, _⟩ := id hrd1
        obtain ⟨k0, k1, f0, f1⟩ := cell_two hp1
        have Hrd1 := Lib.hid hrd1
        have Hgr1 := Lib.hid hgr1
        clear hp1 hrd1 hgr1
        go_wp2
        go_ret
        exact NumOut.no Hn.out (Hgr.out.trans Hgr1.out) Hrd1.out
      | cons c t =>
        have heq : rdNum 9 true l = upon N 16384 (rdNum (6 + 1) false (c :: t)) := Heq.out
        clear Heq
        have Heq := Lib.hid heq
        have hN : N < 16384 := hN
        clear heq
        go_wp2_with fail
        refine (byte_ok Hrd.out).mono ?_
        rintro e w1 ⟨rfl, hrd1, hgr1⟩
        obtain ⟨v1, hp1, _⟩ := id hrd1
        obtain ⟨k0, k1, f0, f1⟩ := cell_two hp1
        have Hrd1 := Lib.hid hrd1
        have Hgr1 := Lib.hid hgr1
        clear hp1 hrd1 hgr1
        have ha := and127 c
        have hct := c.toNat_lt
        by_cases h1 : c.toNat < 128
        · by_cases h0 : c.toNat = 0
          · have hc0 : c = 0 := UInt8.toNat_inj.1 h0
            subst hc0
            have H0 : Hid (rdNum 9 true l = none) := Lib.hid (by rw [Heq.out]; simp [rdNum, upon])
            clear h0 h1 ha
            have hz : bits .and .u8 0 127 = 0 := by decide
            have hb0 := bits_or_sum 14 N 0 hN (by omega)
            have hb : bits .or .i64 (N : Int) 0 = N := by simpa using hb0
            clear hb0
            go_wp2
            go_ret
            exact NumOut.no H0.out ((Hgr.out.trans Hgr1.out).trans (grown_set _ _ _ _)) Hrd1.out.setBad
          · have H0 : Hid (rdNum 9 true l = some (N + 16384 * c.toNat, t)) := Lib.hid (by rw [Heq.out, rdNum_last h1 (.inl h0)]; rfl)
            have hne : ((c.toNat : Int) == 0) = false := by rw [beq_eq_false_iff_ne]; omega
            have hb := bits_or_sum 14 N c.toNat hN (by omega)
            have Hb := Lib.hid hb
            have Hm : Hid ((c.toNat : Int) % 128 * 16384 = ((2 ^ 14 * c.toNat : Nat) : Int)) := Lib.hid (by omega)
            clear h0 hb
            go_wp2
            go_ret
            exact NumOut.yes H0.out (Hgr.out.trans Hgr1.out) Hrd1.out (by rw [Hm.out, Hb.out])
        · have H0 : Hid (rdNum 9 true l = upon (N + 16384 * (c.toNat % 128)) 2097152 (rdNum 6 false t)) := Lib.hid (by rw [Heq.out, rdNum_more (by omega), upon_next])
          have hne : ((c.toNat : Int) == 0) = false := by rw [beq_eq_false_iff_ne]; omega
          have hb := bits_or_sum 14 N (c.toNat % 128) hN (by omega)
          have Hb := Lib.hid hb
          have Hm : Hid ((c.toNat : Int) % 128 * 16384 = ((2 ^ 14 * (c.toNat % 128) : Nat) : Int)) := Lib.hid (by omega)
          clear hb
          go_wp2
          go_roundw
          case rel => exact ⟨3, N + 16384 * (c.toNat % 128), t, by omega, rfl, by rw [Hm.out, Hb.out], by omega, Hrd1.out, Hgr.out.trans Hgr1.out, H0.out⟩
          case measure => simp [intOf]
    · cases lj with
      | nil =>
        have Hn : Hid (rdNum 9 true l = none) := Lib.hid (by rw [Heq.out, rdNum_nil]; rfl)
        clear Heq
        go_wp2_with fail
        refine (byte_bad Hrd.out (.inr rfl)).mono ?_
        rintro e w1 ⟨rfl, hrd1, hgr1⟩
        obtain ⟨v1, hp1, _⟩ := id hrd1
        obtain ⟨k0, k1, f0, f1⟩ := cell_two hp1
        have Hrd1 := Lib.hid hrd1
        have Hgr1 := Lib.hid hgr1
        clear hp1 hrd1 hgr1
        go_wp2
        go_ret
        exact NumOut.no Hn.out (Hgr.out.trans Hgr1.out) Hrd1.out
      | cons c t =>
        have heq : rdNum 9 true l = upon N 2097152 (rdNum (5 + 1) false (c :: t)) := Heq.out
        clear Heq
        have Heq := Lib.hid heq
        have hN : N < 2097152 := hN
        clear heq
        go_wp2_with fail
        refine (byte_ok Hrd.out).mono ?_
        rintro e w1 ⟨rfl, hrd1, hgr1⟩
        obtain ⟨v1, hp1, _⟩ := id hrd1
        obtain ⟨k0, k1, f0, f1⟩ := cell_two hp1
        have Hrd1 := Lib.hid hrd1
        have Hgr1 := Lib.hid hgr1
        clear hp1 hrd1 hgr1
        have ha := and127 c
        have hct := c.toNat_lt
        by_cases h1 : c.toNat < 128
        · by_cases h0 : c.toNat = 0
          · have hc0 : c = 0 := UInt8.toNat_inj.1 h0
            subst hc0
            have H0 : Hid (rdNum 9 true l = none) := Lib.hid (by rw [Heq.out]; simp [rdNum, upon])
            clear h0 h1 ha
            have hz : bits .and .u8 0 127 = 0 := by decide
            have hb0 := bits_or_sum 21 N 0 hN (by omega)
            have hb : bits .or .i64 (N : Int) 0 = N := by simpa using hb0
            clear hb0
            go_wp2
            go_ret
            exact NumOut.no H0.out ((Hgr.out.trans Hgr1.out).trans (grown_set _ _ _ _)) Hrd1.out.setBad
          · have H0 : Hid (rdNum 9 true l = some (N + 2097152 * c.toNat, t)) := Lib.hid (by rw [Heq.out, rdNum_last h1 (.inl h0)]; rfl)
            have hne : ((c.toNat : Int) == 0) = false := by rw [beq_eq_false_iff_ne]; omega
            have hb := bits_or_sum 21 N c.toNat hN (by omega)
            have Hb := Lib.hid hb
            have Hm : Hid ((c.toNat : Int) % 128 * 2097152 = ((2 ^ 21 * c.toNat : Nat) : Int)) := Lib.hid (by omega)
            clear h0 hb
            go_wp2
            go_ret
            exact NumOut.yes H0.out (Hgr.out.trans Hgr1.out) Hrd1.out (by rw [Hm.out, Hb.out])
        · have H0 : Hid (rdNum 9 true l = upon (N + 2097152 * (c.toNat % 128)) 268435456 (rdNum 5 false t)) := Lib.hid (by rw [Heq.out, rdNum_more (by omega), upon_next])
          have hne : ((c.toNat : Int) == 0) = false := by rw [beq_eq_false_iff_ne]; omega
          have hb := bits_or_sum 21 N (c.toNat % 128) hN (by omega)
          have Hb := Lib.hid hb
          have Hm : Hid ((c.toNat : Int) % 128 * 2097152 = ((2 ^ 21 * (c.toNat % 128) : Nat) : Int)) := Lib.hid (by omega)
          clear hb
          go_wp2
          go_roundw
          case rel => exact ⟨4, N + 2097152 * (c.toNat % 128), t, by omega, rfl, by rw [Hm.out, Hb.out], by omega, Hrd1.out, Hgr.out.trans Hgr1.out, H0.out⟩
          case measure => simp [intOf]
    · cases lj with
      | nil =>
        have Hn : Hid (rdNum 9 true l = none) := Lib.hid (by rw [Heq.out, rdNum_nil]; rfl)
        clear Heq
        go_wp2_with fail
        refine (byte_bad Hrd.out (.inr rfl)).mono ?_
        rintro e w1 ⟨rfl, hrd1, hgr1⟩
        obtain ⟨v1, hp1, _⟩ := id hrd1
        obtain ⟨k0, k1, f0, f1⟩ := cell_two hp1
        have Hrd1 := Lib.hid hrd1
        have Hgr1 := Lib.hid hgr1
        clear hp1 hrd1 hgr1
        go_wp2
        go_ret
        exact NumOut.no Hn.out (Hgr.out.trans Hgr1.out) Hrd1.out
      | cons c t =>
        have heq : rdNum 9 true l = upon N 268435456 (rdNum (4 + 1) false (c :: t)) := Heq.out
        clear Heq
        have Heq := Lib.hid heq
        have hN : N < 268435456 := hN
        clear heq
        go_wp2_with fail
        refine (byte_ok Hrd.out).mono ?_
        rintro e w1 ⟨rfl, hrd1, hgr1⟩
        obtain ⟨v1, hp1, _⟩ := id hrd1
        obtain ⟨k0, k1, f0, f1⟩ := cell_two hp1
        have Hrd1 := Lib.hid hrd1
        have Hgr1 := Lib.hid hgr1
        clear hp1 hrd1 hgr1
        have ha := and127 c
        have hct := c.toNat_lt
        by_cases h1 : c.toNat < 128
        · by_cases h0 : c.toNat = 0
          · have hc0 : c = 0 := UInt8.toNat_inj.1 h0
            subst hc0
            have H0 : Hid (rdNum 9 true l = none) := Lib.hid (by rw [Heq.out]; simp [rdNum, upon])
            clear h0 h1 ha
            have hz : bits .and .u8 0 127 = 0 := by decide
            have hb0 := bits_or_sum 28 N 0 hN (by omega)
            have hb : bits .or .i64 (N : Int) 0 = N := by simpa using hb0
            clear hb0
            go_wp2
            go_ret
            exact NumOut.no H0.out ((Hgr.out.trans Hgr1.out).trans (grown_set _ _ _ _)) Hrd1.out.setBad
          · have H0 : Hid (rdNum 9 true l = some (N + 268435456 * c.toNat, t)) := Lib.hid (by rw [Heq.out, rdNum_last h1 (.inl h0)]; rfl)
            have hne : ((c.toNat : Int) == 0) = false := by rw [beq_eq_false_iff_ne]; omega
            have hb := bits_or_sum 28 N c.toNat hN (by omega)
            have Hb := Lib.hid hb
            have Hm : Hid ((c.toNat : Int) % 128 * 268435456 = ((2 ^ 28 * c.toNat : Nat) : Int)) := Lib.hid (by omega)
            clear h0 hb
            go_wp2
            go_ret
            exact NumOut.yes H0.out (Hgr.out.trans Hgr1.out) Hrd1.out (by rw [Hm.out, Hb.out])
        · have H0 : Hid (rdNum 9 true l = upon (N + 268435456 * (c.toNat % 128)) 34359738368 (rdNum 4 false t)) := Lib.hid (by rw [Heq.out, rdNum_more (by omega), upon_next])
          have hne : ((c.toNat : Int) == 0) = false := by rw [beq_eq_false_iff_ne]; omega
          have hb := bits_or_sum 28 N (c.toNat % 128) hN (by omega)
          have Hb := Lib.hid hb
          have Hm : Hid ((c.toNat : Int) % 128 * 268435456 = ((2 ^ 28 * (c.toNat % 128) : Nat) : Int)) := Lib.hid (by omega)
          clear hb
          go_wp2
          go_roundw
          case rel => exact ⟨5, N + 268435456 * (c.toNat % 128), t, by omega, rfl, by rw [Hm.out, Hb.out], by omega, Hrd1.out, Hgr.out.trans Hgr1.out, H0.out⟩
          case measure => simp [intOf]
    · cases lj with
      | nil =>
        have Hn : Hid (rdNum 9 true l = none) := Lib.hid (by rw [Heq.out, rdNum_nil]; rfl)
        clear Heq
        go_wp2_with fail
        refine (byte_bad Hrd.out (.inr rfl)).mono ?_
        rintro e w1 ⟨rfl, hrd1, hgr1⟩
        obtain ⟨v1, hp1, _⟩ := id hrd1
        obtain ⟨k0, k1, f0, f1⟩ := cell_two hp1
        have Hrd1 := Lib.hid hrd1
        have Hgr1 := Lib.hid hgr1
        clear hp1 hrd1 hgr1
        go_wp2
        go_ret
        exact NumOut.no Hn.out (Hgr.out.trans Hgr1.out) Hrd1.out
      | cons c t =>
        have heq : rdNum 9 true l = upon N 34359738368 (rdNum (3 + 1) false (c :: t)) := Heq.out
        clear Heq
        have Heq := Lib.hid heq
        have hN : N < 34359738368 := hN
        clear heq
        go_wp2_with fail
        refine (byte_ok Hrd.out).mono ?_
        rintro e w1 ⟨rfl, hrd1, hgr1⟩
        obtain ⟨v1, hp1, _⟩ := id hrd1
        obtain ⟨k0, k1, f0, f1⟩ := cell_two hp1
        have Hrd1 := Lib.hid hrd1
        have Hgr1 := Lib.hid hgr1
        clear hp1 hrd1 hgr1
        have ha := and127 c
        have hct := c.toNat_lt
        by_cases h1 : c.toNat < 128
        · by_cases h0 : c.toNat = 0
          · have hc0 : c = 0 := UInt8.toNat_inj.1 h0
            subst hc0
            have H0 : Hid (rdNum 9 true l = none) := Lib.hid (by rw [Heq.out]; simp [rdNum, upon])
            clear h0 h1 ha
            have hz : bits .and .u8 0 127 = 0 := by decide
            have hb0 := bits_or_sum 35 N 0 hN (by omega)
            have hb : bits .or .i64 (N : Int) 0 = N := by simpa using hb0
            clear hb0
            go_wp2
            go_ret
            exact NumOut.no H0.out ((Hgr.out.trans Hgr1.out).trans (grown_set _ _ _ _)) Hrd1.out.setBad
          · have H0 : Hid (rdNum 9 true l = some (N + 34359738368 * c.toNat, t)) := Lib.hid (by rw [Heq.out, rdNum_last h1 (.inl h0)]; rfl)
            have hne : ((c.toNat : Int) == 0) = false := by rw [beq_eq_false_iff_ne]; omega
            have hb := bits_or_sum 35 N c.toNat hN (by omega)
            have Hb := Lib.hid hb
            have Hm : Hid ((c.toNat : Int) % 128 * 34359738368 = ((2 ^ 35 * c.toNat : Nat) : Int)) := Lib.hid (by omega)
            clear h0 hb
            go_wp2
            go_ret
            exact NumOut.yes H0.out (Hgr.out.trans Hgr1.out) Hrd1.out (by rw [Hm.out, Hb.out])
        · have H0 : Hid (rdNum 9 true l = upon (N + 34359738368 * (c.toNat % 128)) 4398046511104 (rdNum 3 false t)) := Lib.hid (by rw [Heq.out, rdNum_more (by omega), upon_next])
          have hne : ((c.toNat : Int) == 0) = false := by rw [beq_eq_false_iff_ne]; omega
          have hb := bits_or_sum 35 N (c.toNat % 128) hN (by omega)
          have Hb := Lib.hid hb
          have Hm : Hid ((c.toNat : Int) % 128 * 34359738368 = ((2 ^ 35 * (c.toNat % 128) : Nat) : Int)) := Lib.hid (by omega)
          clear hb
          go_wp2
          go_roundw
          case rel => exact ⟨6, N + 34359738368 * (c.toNat % 128), t, by omega, rfl, by rw [Hm.out, Hb.out], by omega, Hrd1.out, Hgr.out.trans Hgr1.out, H0.out⟩
          case measure => simp [intOf]
    · cases lj with
      | nil =>
        have Hn : Hid (rdNum 9 true l = none) := Lib.hid (by rw [Heq.out, rdNum_nil]; rfl)
        clear Heq
        go_wp2_with fail
        refine (byte_bad Hrd.out (.inr rfl)).mono ?_
        rintro e w1 ⟨rfl, hrd1, hgr1⟩
        obtain ⟨v1, hp1, _⟩ := id hrd1
        obtain ⟨k0, k1, f0, f1⟩ := cell_two hp1
        have Hrd1 := Lib.hid hrd1
        have Hgr1 := Lib.hid hgr1
        clear hp1 hrd1 hgr1
        go_wp2
        go_ret
        exact NumOut.no Hn.out (Hgr.out.trans Hgr1.out) Hrd1.out
      | cons c t =>
        have heq : rdNum 9 true l = upon N 4398046511104 (rdNum (2 + 1) false (c :: t)) := Heq.out
        clear Heq
        have Heq := Lib.hid heq
        have hN : N < 4398046511104 := hN
        clear heq
        go_wp2_with fail
        refine (byte_ok Hrd.out).mono ?_
        rintro e w1 ⟨rfl, hrd1, hgr1⟩
        obtain ⟨v1, hp1, _⟩ := id hrd1
        obtain ⟨k0, k1, f0, f1⟩ := cell_two hp1
        have Hrd1 := Lib.hid hrd1
        have Hgr1 := Lib.hid hgr1
        clear hp1 hrd1 hgr1
        have ha := and127 c
        have hct := c.toNat_lt
        by_cases h1 : c.toNat < 128
        · by_cases h0 : c.toNat = 0
          · have hc0 : c = 0 := UInt8.toNat_inj.1 h0
            subst hc0
            have H0 : Hid (rdNum 9 true l = none) := Lib.hid (by rw [Heq.out]; simp [rdNum, upon])
            clear h0 h1 ha
            have hz : bits .and .u8 0 127 = 0 := by decide
            have hb0 := bits_or_sum 42 N 0 hN (by omega)
            have hb : bits .or .i64 (N : Int) 0 = N := by simpa using hb0
            clear hb0
            go_wp2
            go_ret
            exact NumOut.no H0.out ((Hgr.out.trans Hgr1.out).trans (grown_set _ _ _ _)) Hrd1.out.setBad
          · have H0 : Hid (rdNum 9 true l = some (N + 4398046511104 * c.toNat, t)) := Lib.hid (by rw [Heq.out, rdNum_last h1 (.inl h0)]; rfl)
            have hne : ((c.toNat : Int) == 0) = false := by rw [beq_eq_false_iff_ne]; omega
            have hb := bits_or_sum 42 N c.toNat hN (by omega)
            have Hb := Lib.hid hb
            have Hm : Hid ((c.toNat : Int) % 128 * 4398046511104 = ((2 ^ 42 * c.toNat : Nat) : Int)) := Lib.hid (by omega)
            clear h0 hb
            go_wp2
            go_ret
            exact NumOut.yes H0.out (Hgr.out.trans Hgr1.out) Hrd1.out (by rw [Hm.out, Hb.out])
        · have H0 : Hid (rdNum 9 true l = upon (N + 4398046511104 * (c.toNat % 128)) 562949953421312 (rdNum 2 false t)) := Lib.hid (by rw [Heq.out, rdNum_more (by omega), upon_next])
          have hne : ((c.toNat : Int) == 0) = false := by rw [beq_eq_false_iff_ne]; omega
          have hb := bits_or_sum 42 N (c.toNat % 128) hN (by omega)
          have Hb := Lib.hid hb
          have Hm : Hid ((c.toNat : Int) % 128 * 4398046511104 = ((2 ^ 42 * (c.toNat % 128) : Nat) : Int)) := Lib.hid (by omega)
          clear hb
          go_wp2
          go_roundw
          case rel => exact ⟨7, N + 4398046511104 * (c.toNat % 128), t, by omega, rfl, by rw [Hm.out, Hb.out], by omega, Hrd1.out, Hgr.out.trans Hgr1.out, H0.out⟩
          case measure => simp [intOf]
    · cases lj with
      | nil =>
        have Hn : Hid (rdNum 9 true l = none) := Lib.hid (by rw [Heq.out, rdNum_nil]; rfl)
        clear Heq
        go_wp2_with fail
        refine (byte_bad Hrd.out (.inr rfl)).mono ?_
        rintro e w1 ⟨rfl, hrd1, hgr1⟩
        obtain ⟨v1, hp1, _⟩ := id hrd1
        obtain ⟨k0, k1, f0, f1⟩ := cell_two hp1
        have Hrd1 := Lib.hid hrd1
        have Hgr1 := Lib.hid hgr1
        clear hp1 hrd1 hgr1
        go_wp2
        go_ret
        exact NumOut.no Hn.out (Hgr.out.trans Hgr1.out) Hrd1.out
      | cons c t =>
        have heq : rdNum 9 true l = upon N 562949953421312 (rdNum (1 + 1) false (c :: t)) := Heq.out
        clear Heq
        have Heq := Lib.hid heq
        have hN : N < 562949953421312 := hN
        clear heq
        go_wp2_with fail
        refine (byte_ok Hrd.out).mono ?_
        rintro e w1 ⟨rfl, hrd1, hgr1⟩
        obtain ⟨v1, hp1, _⟩ := id hrd1
        obtain ⟨k0, k1, f0, f1⟩ := cell_two hp1
        have Hrd1 := Lib.hid hrd1
        have Hgr1 := Lib.hid hgr1
        clear hp1 hrd1 hgr1
        have ha := and127 c
        have hct := c.toNat_lt
        by_cases h1 : c.toNat < 128
        · by_cases h0 : c.toNat = 0
          · have hc0 : c = 0 := UInt8.toNat_inj.1 h0
            subst hc0
            have H0 : Hid (rdNum 9 true l = none) := Lib.hid (by rw [Heq.out]; simp [rdNum, upon])
            clear h0 h1 ha
            have hz : bits .and .u8 0 127 = 0 := by decide
            have hb0 := bits_or_sum 49 N 0 hN (by omega)
            have hb : bits .or .i64 (N : Int) 0 = N := by simpa using hb0
            clear hb0
            go_wp2
            go_ret
            exact NumOut.no H0.out ((Hgr.out.trans Hgr1.out).trans (grown_set _ _ _ _)) Hrd1.out.setBad
          · have H0 : Hid (rdNum 9 true l = some (N + 562949953421312 * c.toNat, t)) := Lib.hid (by rw [Heq.out, rdNum_last h1 (.inl h0)]; rfl)
            have hne : ((c.toNat : Int) == 0) = false := by rw [beq_eq_false_iff_ne]; omega
            have hb := bits_or_sum 49 N c.toNat hN (by omega)
            have Hb := Lib.hid hb
            have Hm : Hid ((c.toNat : Int) % 128 * 562949953421312 = ((2 ^ 49 * c.toNat : Nat) : Int)) := Lib.hid (by omega)
            clear h0 hb
            go_wp2
            go_ret
            exact NumOut.yes H0.out (Hgr.out.trans Hgr1.out) Hrd1.out (by rw [Hm.out, Hb.out])
        · have H0 : Hid (rdNum 9 true l = upon (N + 562949953421312 * (c.toNat % 128)) 72057594037927936 (rdNum 1 false t)) := Lib.hid (by rw [Heq.out, rdNum_more (by omega), upon_next])
          have hne : ((c.toNat : Int) == 0) = false := by rw [beq_eq_false_iff_ne]; omega
          have hb := bits_or_sum 49 N (c.toNat % 128) hN (by omega)
          have Hb := Lib.hid hb
          have Hm : Hid ((c.toNat : Int) % 128 * 562949953421312 = ((2 ^ 49 * (c.toNat % 128) : Nat) : Int)) := Lib.hid (by omega)
          clear hb
          go_wp2
          go_roundw
          case rel => exact ⟨8, N + 562949953421312 * (c.toNat % 128), t, by omega, rfl, by rw [Hm.out, Hb.out], by omega, Hrd1.out, Hgr.out.trans Hgr1.out, H0.out⟩
          case measure => simp [intOf]
    · cases lj with
      | nil =>
        have Hn : Hid (rdNum 9 true l = none) := Lib.hid (by rw [Heq.out, rdNum_nil]; rfl)
        clear Heq
        go_wp2_with fail
        refine (byte_bad Hrd.out (.inr rfl)).mono ?_
        rintro e w1 ⟨rfl, hrd1, hgr1⟩
        obtain ⟨v1, hp1, _⟩ := id hrd1
        obtain ⟨k0, k1, f0, f1⟩ := cell_two hp1
        have Hrd1 := Lib.hid hrd1
        have Hgr1 := Lib.hid hgr1
        clear hp1 hrd1 hgr1
        go_wp2
        go_ret
        exact NumOut.no Hn.out (Hgr.out.trans Hgr1.out) Hrd1.out
      | cons c t =>
        have heq : rdNum 9 true l = upon N 72057594037927936 (rdNum (0 + 1) false (c :: t)) := Heq.out
        clear Heq
        have Heq := Lib.hid heq
        have hN : N < 72057594037927936 := hN
        clear heq
        go_wp2_with fail
        refine (byte_ok Hrd.out).mono ?_
        rintro e w1 ⟨rfl, hrd1, hgr1⟩
        obtain ⟨v1, hp1, _⟩ := id hrd1
        obtain ⟨k0, k1, f0, f1⟩ := cell_two hp1
        have Hrd1 := Lib.hid hrd1
        have Hgr1 := Lib.hid hgr1
        clear hp1 hrd1 hgr1
        have ha := and127 c
        have hct := c.toNat_lt
        by_cases h1 : c.toNat < 128
        · by_cases h0 : c.toNat = 0
          · have hc0 : c = 0 := UInt8.toNat_inj.1 h0
            subst hc0
            have H0 : Hid (rdNum 9 true l = none) := Lib.hid (by rw [Heq.out]; simp [rdNum, upon])
            clear h0 h1 ha
            have hz : bits .and .u8 0 127 = 0 := by decide
            have hb0 := bits_or_sum 56 N 0 hN (by omega)
            have hb : bits .or .i64 (N : Int) 0 = N := by simpa using hb0
            clear hb0
            go_wp2
            go_ret
            exact NumOut.no H0.out ((Hgr.out.trans Hgr1.out).trans (grown_set _ _ _ _)) Hrd1.out.setBad
          · have H0 : Hid (rdNum 9 true l = some (N + 72057594037927936 * c.toNat, t)) := Lib.hid (by rw [Heq.out, rdNum_last h1 (.inl h0)]; rfl)
            have hne : ((c.toNat : Int) == 0) = false := by rw [beq_eq_false_iff_ne]; omega
            have hb := bits_or_sum 56 N c.toNat hN (by omega)
            have Hb := Lib.hid hb
            have Hm : Hid ((c.toNat : Int) % 128 * 72057594037927936 = ((2 ^ 56 * c.toNat : Nat) : Int)) := Lib.hid (by omega)
            clear h0 hb
            go_wp2
            go_ret
            exact NumOut.yes H0.out (Hgr.out.trans Hgr1.out) Hrd1.out (by rw [Hm.out, Hb.out])
        · have H0 : Hid (rdNum 9 true l = upon (N + 72057594037927936 * (c.toNat % 128)) 9223372036854775808 (rdNum 0 false t)) := Lib.hid (by rw [Heq.out, rdNum_more (by omega), upon_next])
          have hne : ((c.toNat : Int) == 0) = false := by rw [beq_eq_false_iff_ne]; omega
          have hb := bits_or_sum 56 N (c.toNat % 128) hN (by omega)
          have Hb := Lib.hid hb
          have Hm : Hid ((c.toNat : Int) % 128 * 72057594037927936 = ((2 ^ 56 * (c.toNat % 128) : Nat) : Int)) := Lib.hid (by omega)
          clear hb
          go_wp2
          go_roundw
          case rel => exact ⟨9, N + 72057594037927936 * (c.toNat % 128), t, by omega, rfl, by rw [Hm.out, Hb.out], by omega, Hrd1.out, Hgr.out.trans Hgr1.out, H0.out⟩
          case measure => simp [intOf]

/-- a number of a bad Reader -/
theorem rnumber_bad {w : World} {p : Nat} {go : Option Nat} {l : List UInt8} (h : RD w p go l true) :
    Calls Tryd.prog 47 #[.pointer (some ⟨p, 0, none⟩)] w (RawBad w p go l (.int .i64 0)) := by
  have H := Lib.hid h
  clear h
  go_enter Tryd.func47, Tryd.ntmps47
  go_wp2
  refine wp_loop_rounds 1 ?_
  rw [rounds_succ]
  go_wp2_with fail
  refine (byte_bad H.out (.inl rfl)).mono ?_
  rintro e w1 ⟨rfl, hrd1, hgr1⟩
  obtain ⟨v1, hp1, _⟩ := id hrd1
  obtain ⟨k0, k1, f0, f1⟩ := cell_two hp1
  have Hrd1 := Lib.hid hrd1
  have Hgr1 := Lib.hid hgr1
  clear hp1 hrd1 hgr1
  go_wp2
  go_ret
  exact ⟨rfl, Hrd1.out, Hgr1.out⟩
end Go.Proofs.YtmhklmecpbdljaaDoor
/- The contract of wire.Reader.Text. -/

namespace Go.Proofs.YtmhklmecpbdljaaDoor
open Go.RowKit
set_option linter.unusedVariables false

/-- the text at the head of some bytes, and what is left -/
def rdText (l : List UInt8) : Option (List UInt8 × List UInt8) :=
  match rdNum 9 true l with
  | some (n, r) => if n ≤ r.length then some (r.take n, r.drop n) else none
  | none => none
theorem rdText_num (m r : List UInt8) (h : m.length < 9223372036854775808) : rdText (num m.length ++ m ++ r) = some (m, r) := by
  unfold rdText
  rw [List.append_assoc, rdNum9_num h]
  simp
theorem rdText_some {l t r : List UInt8} (h : rdText l = some (t, r)) : ∃ n q, rdNum 9 true l = some (n, q) ∧ n ≤ q.length ∧ t = q.take n ∧ r = q.drop n := by
  unfold rdText at h
  cases e : rdNum 9 true l with
  | none => rw [e] at h; cases h
  | some x =>
    obtain ⟨n, q⟩ := x
    rw [e] at h
    by_cases hn : n ≤ q.length
    · simp only [if_pos hn, Option.some.injEq, Prod.mk.injEq] at h
      exact ⟨n, q, rfl, hn, h.1.symm, h.2.symm⟩
    · simp [if_neg hn] at h
theorem rdText_none {l : List UInt8} (h : rdText l = none) : rdNum 9 true l = none ∨ ∃ n q, rdNum 9 true l = some (n, q) ∧ q.length < n := by
  unfold rdText at h
  cases e : rdNum 9 true l with
  | none => exact .inl rfl
  | some x =>
    obtain ⟨n, q⟩ := x
    rw [e] at h
    by_cases hn : n ≤ q.length
    · simp [if_pos hn] at h
    · exact .inr ⟨n, q, rfl, by omega⟩

def TextYes (w : World) (p : Nat) (go : Option Nat) (t r : List UInt8) (e : Ending) (w' : World) : Prop :=
  ∃ ao c, e = .returned (.slice ao t.length c) ∧ RB w' (.slice ao t.length c) t ∧ RD w' p go r false ∧ w.grownBy w' (some p) ∧ (∀ k, (Value.slice ao t.length c).ownBlock = some k → go = some k)
def TextNo (w : World) (p : Nat) (go : Option Nat) (e : Ending) (w' : World) : Prop :=
  e = .returned (.slice none 0 0) ∧ (∃ l', RD w' p go l' true) ∧ w.grownBy w' (some p)

theorem RD.chg {F : Nat → Prop} {w w' : World} {p : Nat} {go : Option Nat} {l : List UInt8} {bad : Bool} (h : RD w p go l bad) (hc : Chg F w w') (hp : ¬ F p) (hg : ∀ k, go = some k → ¬ F k) : RD w' p go l bad :=
  h.kept hc.size fun k hk hk2 => hc.block k hk (by rcases hk2 with rfl | hk2; exact hp; exact hg k hk2)
theorem RD.alloc {w : World} {p : Nat} {go : Option Nat} {l : List UInt8} {bad : Bool} (h : RD w p go l bad) (o : Obj) : RD (w.alloc o) p go l bad := h.below ((Below.refl _ w).alloc (Nat.le_refl _) o)

set_option maxHeartbeats 1000000 in
theorem rtext_ok {w : World} {p : Nat} {go : Option Nat} {l t r : List UInt8} (h : RD w p go l false) (he : rdText l = some (t, r)) :
    Calls Tryd.prog 61 #[.pointer (some ⟨p, 0, none⟩)] w (TextYes w p go t r) := by
  obtain ⟨n, q, h1, h2, rfl, rfl⟩ := rdText_some he
  have hN := rnumber h
  rw [h1] at hN
  have HN := Lib.hid hN
  have H2 := Lib.hid h2
  clear hN h1 he h h2
  go_enter Tryd.func61, Tryd.ntmps61
  go_wp2_with fail; (with_reducible refine (HN.out).mono ?_); rintro e w1 ⟨hg1, rfl, hrd1⟩
  have hr := raw_ok hrd1 n H2.out
  have Hr := Lib.hid hr
  have Hg1 := Lib.hid hg1
  clear hr hrd1 hg1
  go_wp2_with fail; (with_reducible refine (Hr.out).mono ?_); rintro e w2 ⟨v, rfl, hrb, hrd2, hg2, ho, ⟨ao, c, rfl, hm⟩⟩
  have Hrb := Lib.hid hrb
  have Hrd := Lib.hid hrd2
  have Ho := Lib.hid ho
  clear hrb hrd2 ho
  go_wp2
  go_ret
  have e : (q.take n).length = n := by rw [List.length_take]; have := H2.out; omega
  have e2 : Value.slice ao n c = Value.slice ao (q.take n).length c := by rw [e]
  have a1 := Hrb.out
  have a2 := Ho.out
  rw [e2] at a1 a2 ⊢
  exact ⟨ao, c, rfl, a1, Hrd.out, Hg1.out.trans hg2, a2⟩

set_option maxHeartbeats 1000000 in
theorem rtext_no {w : World} {p : Nat} {go : Option Nat} {l : List UInt8} (h : RD w p go l false) (he : rdText l = none) :
    Calls Tryd.prog 61 #[.pointer (some ⟨p, 0, none⟩)] w (TextNo w p go) := by
  have hN := rnumber h
  rcases rdText_none he with h1 | ⟨n, q, h1, h2⟩
  · rw [h1] at hN
    have HN := Lib.hid hN
    clear hN h1 he h
    go_enter Tryd.func61, Tryd.ntmps61
    go_wp2_with fail; (with_reducible refine (HN.out).mono ?_); rintro e w1 ⟨hg1, rfl, l', hrd1⟩
    have hr := raw_bad hrd1 0 (.inl rfl)
    have Hr := Lib.hid hr
    clear hr hrd1
    go_wp2_with fail; (with_reducible refine (Hr.out).mono ?_); rintro e w2 ⟨rfl, hrd2, hg2⟩
    have Hrd := Lib.hid hrd2
    clear hrd2
    go_wp2
    go_ret
    exact ⟨rfl, ⟨_, Hrd.out⟩, hg1.trans hg2⟩
  · rw [h1] at hN
    have HN := Lib.hid hN
    have H2 := Lib.hid h2
    clear hN h1 he h h2
    go_enter Tryd.func61, Tryd.ntmps61
    go_wp2_with fail; (with_reducible refine (HN.out).mono ?_); rintro e w1 ⟨hg1, rfl, hrd1⟩
    have hr := raw_bad hrd1 n (.inr (.inr (by have := H2.out; omega)))
    have Hr := Lib.hid hr
    clear hr hrd1
    go_wp2_with fail; (with_reducible refine (Hr.out).mono ?_); rintro e w2 ⟨rfl, hrd2, hg2⟩
    have Hrd := Lib.hid hrd2
    clear hrd2
    go_wp2
    go_ret
    exact ⟨rfl, ⟨_, Hrd.out⟩, hg1.trans hg2⟩

theorem rtext_bad {w : World} {p : Nat} {go : Option Nat} {l : List UInt8} (h : RD w p go l true) :
    Calls Tryd.prog 61 #[.pointer (some ⟨p, 0, none⟩)] w (RawBad w p go l (.slice none 0 0)) := by
  have H := Lib.hid h
  clear h
  go_enter Tryd.func61, Tryd.ntmps61
  go_wp2_with fail; (with_reducible refine (rnumber_bad H.out).mono ?_); rintro e w1 ⟨rfl, hrd1, hg1⟩
  have hr := raw_bad hrd1 0 (.inl rfl)
  have Hr := Lib.hid hr
  clear hr hrd1
  go_wp2_with fail; (with_reducible refine (Hr.out).mono ?_); rintro e w2 ⟨rfl, hrd2, hg2⟩
  have Hrd := Lib.hid hrd2
  clear hrd2
  go_wp2
  go_ret
  exact ⟨rfl, Hrd.out, hg1.trans hg2⟩
end Go.Proofs.YtmhklmecpbdljaaDoor
