/- batch.Batch.Check: its contract. -/
import Derived.Test.YtcbkjhbneigkaaaYOpd
namespace Go.Proofs.Ytcbkjhbneigkaaa
open Go.RowKit
set_option linter.unusedVariables false

set_option maxHeartbeats 1000000 in
theorem chkfn (x : OpD) (w : World) (hx : OpOk x) (b : Bool) (hb : b = !opRight x) :
    Calls Try.prog 37 #[.agg #[.int .i64 x.kind, .string x.key, .string x.val]] w fun e w' => e = .returned (.bool b) ∧ Below w.heap.size w w' := by
  have Hb := Lib.hid hb
  clear hb
  cases h : opRight x with
  | true =>
    have H := Lib.hid h
    clear h
    go_enter Try.func37, Try.ntmps37
    go_wp2_with fail; (with_reducible refine (opcheck x _ hx 0 (by rw [H.out, if_pos rfl])).mono ?_); rintro e w1 ⟨rfl, hb1⟩
    go_wp2
    go_ret
    exact ⟨by rw [Hb.out, H.out]; rfl, ((Below.refl _ w).alloc (Nat.le_refl _) _).trans (hb1.mono (by simp))⟩
  | false =>
    have H := Lib.hid h
    clear h
    go_enter Try.func37, Try.ntmps37
    go_wp2_with fail; (with_reducible refine (opcheck x _ hx 100 (by simp [H.out])).mono ?_); rintro e w1 ⟨rfl, hb1⟩
    go_wp2
    go_ret
    exact ⟨by rw [Hb.out, H.out]; rfl, ((Below.refl _ w).alloc (Nat.le_refl _) _).trans (hb1.mono (by simp))⟩

def IdxOut (w : World) (l : List OpD) (e : Ending) (w' : World) : Prop := ∃ z : Int, e = .returned (.int .i64 z) ∧ (z = -1 ∨ 0 ≤ z) ∧ (0 ≤ z ↔ l.any (fun x => !opRight x) = true) ∧ Below w.heap.size w w'

set_option maxRecDepth 100000 in
set_option maxHeartbeats 2000000 in
theorem idxfn {w : World} {a : Option Addr} {c : Nat} {l : List OpD} (h : OPs w a l) (hl : l.length ≤ maxLen) :
    Calls Try.prog 51 #[.slice a l.length c, .func (.func 37) #[] #[]] w (IdxOut w l) := by
  unfold maxLen at hl
  have H := Lib.hid h
  clear h
  go_enter Try.func51, Try.ntmps51
  go_wp2
  go_loopw [8] (fun i wr => ∃ k : Nat, k ≤ l.length ∧ i = .int .i64 k ∧ (∀ (j : Nat) (hj : j < l.length), j < k → opRight l[j] = true) ∧ Below w.heap.size w wr) (fun i _ => l.length - (intOf i).toNat)
  case atStart => exact ⟨0, Nat.zero_le _, rfl, fun j hj hk => by omega, Below.refl _ _⟩
  case round =>
    obtain ⟨k, hk, rfl, hall, hb⟩ := hrel
    have Hall := Lib.hid hall
    clear hall
    by_cases hlt : k < l.length
    · obtain ⟨b, off, rfl, d0, d1, d2⟩ := H.out.cells hb k hlt
      have hok := H.out.2 _ (List.getElem_mem hlt)
      cases hr : opRight l[k] with
      | true =>
        have Hx : Hid (∀ (j : Nat) (hj : j < l.length), j < k + 1 → opRight l[j] = true) := Lib.hid fun j hj hjk => by
          by_cases e : j = k
          · subst e; exact hr
          · exact Hall.out j hj (by omega)
        have Hr : Hid (false = !opRight l[k]) := Lib.hid (by rw [hr]; rfl)
        have Hok := Lib.hid hok
        clear hr hok
        generalize l[k] = x at *
        go_wp2_with fail; (with_reducible refine (chkfn x _ Hok.out false Hr.out).mono ?_); rintro e w1 ⟨rfl, hb1⟩
        have B1 := bnext hb hb1
        go_wp2
        go_roundw
        case rel => exact ⟨k + 1, by omega, by go_num, Hx.out, B1⟩
        case measure => simp [intOf]; omega
      | false =>
        have Hx : Hid (l.any (fun x => !opRight x) = true) := Lib.hid (List.any_eq_true.2 ⟨_, List.getElem_mem hlt, by rw [hr]; rfl⟩)
        have Hr : Hid (true = !opRight l[k]) := Lib.hid (by rw [hr]; rfl)
        have Hok := Lib.hid hok
        clear hr hok
        generalize l[k] = x at *
        go_wp2_with fail; (with_reducible refine (chkfn x _ Hok.out true Hr.out).mono ?_); rintro e w1 ⟨rfl, hb1⟩
        have B1 := bnext hb hb1
        go_wp2
        go_ret
        exact ⟨_, rfl, .inr (by omega), ⟨fun _ => Hx.out, fun _ => by omega⟩, B1⟩
    · have Hx : Hid (l.any (fun x => !opRight x) = false) := Lib.hid (by
        rw [List.any_eq_false]
        intro x hx
        obtain ⟨j, hj, rfl⟩ := List.getElem_of_mem hx
        rw [Hall.out j hj (by omega)]; decide)
      go_wp2
      go_ret
      exact ⟨-1, rfl, .inl rfl, ⟨fun h => by omega, fun h => by rw [Hx.out] at h; cases h⟩, hb⟩

theorem cntfn {w : World} {a : Option Addr} {c : Nat} {l : List OpD} (h : OPs w a l) (hl : l.length ≤ maxLen) :
    Calls Try.prog 36 #[.slice a l.length c, .func (.func 37) #[] #[]] w fun e w' => e = .returned (.bool (l.any (fun x => !opRight x))) ∧ Below w.heap.size w w' := by
  have hi := idxfn (c := c) h hl
  have Hi := Lib.hid hi
  clear hi h
  go_enter Try.func36, Try.ntmps36
  go_wp2_with fail; (with_reducible refine (Hi.out).mono ?_); rintro e w1 ⟨z, rfl, hz1, hz2, hb1⟩
  have Hz2 := Lib.hid hz2
  clear hz2
  go_wp2
  go_ret
  refine ⟨?_, hb1⟩
  have e : decide (0 ≤ z) = l.any (fun x => !opRight x) := by
    rw [Bool.eq_iff_iff, decide_eq_true_eq]; exact Hz2.out
  rw [e]; rfl

/-- is a batch right? -/
def batRight (seq : Int) (l : List OpD) : Bool := decide (1 ≤ l.length ∧ l.length ≤ 64 ∧ 0 ≤ seq ∧ seq ≤ 1099511627776 - l.length) && !(l.any (fun x => !opRight x))

set_option maxHeartbeats 1000000 in
theorem batcheck {w : World} {a : Option Addr} {c : Nat} {l : List OpD} (h : OPs w a l) (hl : l.length ≤ maxLen) (seq : Int) (z : Int) (hz : z = if batRight seq l then 0 else 100) :
    Calls Try.prog 14 #[.agg #[.int .i64 seq, .slice a l.length c]] w fun e w' => e = .returned (.int .i64 z) ∧ Below w.heap.size w w' := by
  have Hz := Lib.hid hz
  clear hz
  have Hl := Lib.hid hl
  unfold maxLen at hl
  have H := Lib.hid h
  clear h
  by_cases hc : 1 ≤ l.length ∧ l.length ≤ 64 ∧ 0 ≤ seq ∧ seq ≤ 1099511627776 - l.length
  · have Hc := Lib.hid hc
    obtain ⟨c1, c2, c3, c4⟩ := hc
    cases ha : l.any (fun x => !opRight x) with
    | true =>
      have Hr : Hid (batRight seq l = false) := Lib.hid (by unfold batRight; rw [ha]; simp)
      have Ha := Lib.hid ha
      clear ha
      go_enter Try.func14, Try.ntmps14
      go_wp2_with fail; (with_reducible refine (cntfn (H.out.below ((Below.refl _ w).alloc (Nat.le_refl _) _)) Hl.out).mono ?_); rintro e w1 ⟨rfl, hb1⟩
      rw [Ha.out]
      go_wp2
      go_ret
      exact ⟨ret_i64 (by rw [Hz.out, Hr.out]; rfl), ((Below.refl _ w).alloc (Nat.le_refl _) _).trans (hb1.mono (by simp))⟩
    | false =>
      have Hr : Hid (batRight seq l = true) := Lib.hid (by unfold batRight; rw [ha, decide_eq_true Hc.out]; rfl)
      have Ha := Lib.hid ha
      clear ha
      go_enter Try.func14, Try.ntmps14
      go_wp2_with fail; (with_reducible refine (cntfn (H.out.below ((Below.refl _ w).alloc (Nat.le_refl _) _)) Hl.out).mono ?_); rintro e w1 ⟨rfl, hb1⟩
      rw [Ha.out]
      go_wp2
      go_ret
      exact ⟨ret_i64 (by rw [Hz.out, Hr.out]; rfl), ((Below.refl _ w).alloc (Nat.le_refl _) _).trans (hb1.mono (by simp))⟩
  · have Hr : Hid (batRight seq l = false) := Lib.hid (by unfold batRight; rw [decide_eq_false hc]; rfl)
    have hcs : l.length < 1 ∨ (1 ≤ l.length ∧ 64 < l.length) ∨ (1 ≤ l.length ∧ l.length ≤ 64 ∧ seq < 0) ∨ (1 ≤ l.length ∧ l.length ≤ 64 ∧ 0 ≤ seq ∧ (1099511627776 : Int) - l.length < seq) := by omega
    clear hc
    rcases hcs with h1 | ⟨h1, h2⟩ | ⟨h1, h2, h3⟩ | ⟨h1, h2, h3, h4⟩
    all_goals
      go_enter Try.func14, Try.ntmps14
      go_wp2
      go_ret
      exact ⟨ret_i64 (by rw [Hz.out, Hr.out]; rfl), (Below.refl _ w).alloc (Nat.le_refl _) _⟩
end Go.Proofs.Ytcbkjhbneigkaaa
