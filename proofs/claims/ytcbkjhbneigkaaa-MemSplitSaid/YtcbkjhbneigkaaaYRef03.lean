/- Contracts of Seek, Sees, Less, and of the document's Cmp, Order, Right and Same. -/
import Derived.Test.YtcbkjhbneigkaaaYJc
import Derived.Test.YtcbkjhbneigkaaaYOrd
namespace Go.Proofs.Ytcbkjhbneigkaaa
open Go.RowKit
set_option linter.unusedVariables false

theorem seek_any (u : ByteArray) (at' : Int) (w : World) :
    Calls Try.prog 30 #[.string u, .int .i64 at'] w fun e w' => e = .returned (.agg #[.string u, .int .i64 at', .int .i64 3]) ∧ Below w.heap.size w w' := by
  go_enter Try.func30, Try.ntmps30
  go_wp2
  exact bodyPost_ret (v := .agg #[.string u, .int .i64 at', .int .i64 3]) (by simp [results, Try.results30, go_sem]) rfl ⟨rfl, by (repeat first | exact Below.refl _ _ | refine Below.drew ?_ | refine Below.alloc ?_ (by simp <;> omega) _ | refine Below.setCell ?_ (by simp <;> omega) _)⟩

theorem sees_any (u : ByteArray) (s k at' : Int) (w : World) :
    Calls Try.prog 43 #[.agg #[.string u, .int .i64 s, .int .i64 k], .int .i64 at'] w fun e w' => e = .returned (.bool (decide (s ≤ at'))) ∧ Below w.heap.size w w' := by
  go_enter Try.func43, Try.ntmps43
  go_wp2
  go_ret
  exact ⟨rfl, by (repeat first | exact Below.refl _ _ | refine Below.drew ?_ | refine Below.alloc ?_ (by simp <;> omega) _ | refine Below.setCell ?_ (by simp <;> omega) _)⟩

theorem Order_any (a b : ByteArray) (w : World) (ha : a.size ≤ maxLen) (hb : b.size ≤ maxLen) :
    Calls Try.prog 23 #[.string a, .string b] w fun e w' => e = .returned (.int .i64 (Lib.compareBytes a.data.toList b.data.toList)) ∧ Below w.heap.size w w' := by
  go_enter Try.func23, Try.ntmps23
  go_wp2_with (go_at_call 44; (with_reducible refine (order_any _ _ _ ha hb).mono ?_); rintro e w1 ⟨rfl, hb1⟩)
  go_ret
  exact ⟨rfl, hb1⟩

theorem Order_b (l m : List UInt8) (w : World) (hl : l.length ≤ maxLen) (hm : m.length ≤ maxLen) (p : Int) (hp : Lib.compareBytes l m = p) :
    Calls Try.prog 23 #[.string ⟨l.toArray⟩, .string ⟨m.toArray⟩] w fun e w' => e = .returned (.int .i64 p) ∧ Below w.heap.size w w' := by
  subst hp; exact Order_any ⟨l.toArray⟩ ⟨m.toArray⟩ w (by rw [size_mk]; exact hl) (by rw [size_mk]; exact hm)
set_option maxHeartbeats 1000000 in
theorem refcmp_any (u v : ByteArray) (s t k l : Int) (w : World) (hu : u.size ≤ maxLen) (hv : v.size ≤ maxLen) (p : Int) (hp : kcmp u s k v t l = p) :
    Calls Try.prog 42 #[.agg #[.string u, .int .i64 s, .int .i64 k], .agg #[.string v, .int .i64 t, .int .i64 l]] w fun e w' => e = .returned (.int .i64 p) ∧ Below w.heap.size w w' := by
  unfold kcmp or3 at hp
  obtain ⟨c, hc⟩ : ∃ c, Lib.compareBytes u.data.toList v.data.toList = c := ⟨_, rfl⟩
  rw [hc] at hp
  have Hc := Lib.hid hc
  have Hp := Lib.hid hp
  clear hc hp
  go_enter Try.func42, Try.ntmps42
  go_upto_region 1 with (fail)
  refine gen_wp (fun w' => Below w.heap.size w w' ∧ w'.cell? ⟨w.heap.size, 0, none⟩ = some (.string u) ∧ w'.cell? ⟨w.heap.size, 1, none⟩ = some (.int .i64 s) ∧ w'.cell? ⟨w.heap.size, 2, none⟩ = some (.int .i64 k) ∧
    w'.cell? ⟨w.heap.size + 1, 0, none⟩ = some (.string v) ∧ w'.cell? ⟨w.heap.size + 1, 1, none⟩ = some (.int .i64 t) ∧ w'.cell? ⟨w.heap.size + 1, 2, none⟩ = some (.int .i64 l)) ?_ ?_
  · refine ⟨?_, ?_, ?_, ?_, ?_, ?_, ?_⟩
    · (repeat first | exact Below.refl _ _ | refine Below.drew ?_ | refine Below.alloc ?_ (by simp <;> omega) _ | refine Below.setCell ?_ (by simp <;> omega) _)
    all_goals go_simp
  rintro w0 ⟨hb0, c0, c1, c2, c3, c4, c5⟩
  have t0 := cell_next c0
  have t1 := cell_next c1
  have t2 := cell_next c2
  have t3 := cell_next c3
  have t4 := cell_next c4
  have t5 := cell_next c5
  clear c0 c1 c2 c3 c4 c5
  have B0 := Below.refl w0.heap.size w0
  by_cases h1 : c = 0
  · subst h1
    rcases Int.lt_trichotomy t s with h2 | h2 | h2
    · obtain rfl : p = -1 := by rw [← Hp.out]; unfold icmp; (repeat' split) <;> omega
      clear Hp
      go_wp2_with (go_at_call 44; (with_reducible refine (order_any _ _ _ hu hv).mono ?_); rintro e w1 ⟨rfl, hb1⟩; have B1 := bnext B0 hb1; rw [Hc.out])
      go_ret
      exact ⟨rfl, hb0.trans (B1.mono hb0.size)⟩
    · subst h2
      rcases Int.lt_trichotomy l k with h2 | h2 | h2
      · obtain rfl : p = -1 := by rw [← Hp.out]; unfold icmp; (repeat' split) <;> omega
        clear Hp
        go_wp2_with (go_at_call 44; (with_reducible refine (order_any _ _ _ hu hv).mono ?_); rintro e w1 ⟨rfl, hb1⟩; have B1 := bnext B0 hb1; rw [Hc.out])
        go_ret
        exact ⟨rfl, hb0.trans (B1.mono hb0.size)⟩
      · subst h2
        obtain rfl : p = 0 := by rw [← Hp.out]; unfold icmp; (repeat' split) <;> omega
        clear Hp
        go_wp2_with (go_at_call 44; (with_reducible refine (order_any _ _ _ hu hv).mono ?_); rintro e w1 ⟨rfl, hb1⟩; have B1 := bnext B0 hb1; rw [Hc.out])
        go_ret
        exact ⟨rfl, hb0.trans (B1.mono hb0.size)⟩
      · obtain rfl : p = 1 := by rw [← Hp.out]; unfold icmp; (repeat' split) <;> omega
        clear Hp
        have h3 : ¬ l < k := by omega
        go_wp2_with (go_at_call 44; (with_reducible refine (order_any _ _ _ hu hv).mono ?_); rintro e w1 ⟨rfl, hb1⟩; have B1 := bnext B0 hb1; rw [Hc.out])
        go_ret
        exact ⟨rfl, hb0.trans (B1.mono hb0.size)⟩
    · obtain rfl : p = 1 := by rw [← Hp.out]; unfold icmp; (repeat' split) <;> omega
      clear Hp
      have h3 : ¬ t < s := by omega
      go_wp2_with (go_at_call 44; (with_reducible refine (order_any _ _ _ hu hv).mono ?_); rintro e w1 ⟨rfl, hb1⟩; have B1 := bnext B0 hb1; rw [Hc.out])
      go_ret
      exact ⟨rfl, hb0.trans (B1.mono hb0.size)⟩
  · have h2 : (c != 0) = true := by simpa using h1
    obtain rfl : p = c := by rw [← Hp.out]; unfold icmp; (repeat' split) <;> omega
    clear Hp
    clear h1
    go_wp2_with (go_at_call 44; (with_reducible refine (order_any _ _ _ hu hv).mono ?_); rintro e w1 ⟨rfl, hb1⟩; have B1 := bnext B0 hb1; rw [Hc.out])
    go_ret
    exact ⟨rfl, hb0.trans (B1.mono hb0.size)⟩
end Go.Proofs.Ytcbkjhbneigkaaa
