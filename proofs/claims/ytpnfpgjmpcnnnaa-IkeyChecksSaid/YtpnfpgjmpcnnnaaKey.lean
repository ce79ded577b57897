/- Contracts of ikey.Key: Check and Cmp: each for every key. -/
import Derived.Test.YtpnfpgjmpcnnnaaBase
namespace Go.Proofs.Ytpnfpgjmpcnnnaa
open Go.RowKit
set_option linter.unusedVariables false

/-- a key as a value -/
def keyv (u : ByteArray) (s k : Int) : Value := .agg #[.string u, .int .i64 s, .int .i64 k]

def keyRight (u : ByteArray) (s k : Int) : Bool := decide (1 ≤ u.size ∧ u.size ≤ 64 ∧ 0 ≤ s ∧ s ≤ 1099511627776 ∧ 1 ≤ k ∧ k ≤ 3)

theorem check_ok (u : ByteArray) (s k : Int) (w : World) (h : keyRight u s k = true) :
    Calls Try.prog 22 #[.agg #[.string u, .int .i64 s, .int .i64 k]] w fun e w' => e = .returned (.int .i64 0) ∧ w.alloc (.cells #[.string u, .int .i64 s, .int .i64 k] 23) = w' := by
  simp only [keyRight, decide_eq_true_eq] at h
  obtain ⟨h1, h2, h3, h4, h5, h6⟩ := h
  go_enter Try.func22, Try.ntmps22
  go_wp2
  go_ret
  exact ⟨rfl, rfl⟩

theorem check_bad (u : ByteArray) (s k : Int) (w : World) (h : keyRight u s k = false) :
    Calls Try.prog 22 #[.agg #[.string u, .int .i64 s, .int .i64 k]] w fun e w' => e = .returned (.int .i64 30) ∧ w.alloc (.cells #[.string u, .int .i64 s, .int .i64 k] 23) = w' := by
  simp only [keyRight, decide_eq_false_iff_not] at h
  by_cases h1 : 1 ≤ u.size
  · by_cases h2 : u.size ≤ 64
    · by_cases h3 : 0 ≤ s
      · by_cases h4 : s ≤ 1099511627776
        · by_cases h5 : 1 ≤ k
          · have h6 : 3 < k := by omega
            clear h
            go_enter Try.func22, Try.ntmps22
            go_wp2
            go_ret
            exact ⟨rfl, rfl⟩
          · have h6 : k < 1 := by omega
            clear h h5
            go_enter Try.func22, Try.ntmps22
            go_wp2
            go_ret
            exact ⟨rfl, rfl⟩
        · have h6 : 1099511627776 < s := by omega
          clear h h4
          go_enter Try.func22, Try.ntmps22
          go_wp2
          go_ret
          exact ⟨rfl, rfl⟩
      · have h6 : s < 0 := by omega
        clear h h3
        go_enter Try.func22, Try.ntmps22
        go_wp2
        go_ret
        exact ⟨rfl, rfl⟩
    · have h6 : 64 < u.size := by omega
      clear h h2
      go_enter Try.func22, Try.ntmps22
      go_wp2
      go_ret
      exact ⟨rfl, rfl⟩
  · have h6 : u.size < 1 := by omega
    clear h h1
    go_enter Try.func22, Try.ntmps22
    go_wp2
    go_ret
    exact ⟨rfl, rfl⟩

/-- which of two keys stands first -/
def kcmp (u : ByteArray) (s k : Int) (v : ByteArray) (t l : Int) : Int := or3 (Lib.compareBytes u.data.toList v.data.toList) (icmp t s) (icmp l k)

set_option maxHeartbeats 1000000 in
theorem keycmp (u v : ByteArray) (s t k l : Int) (w : World) :
    Calls Try.prog 12 #[.agg #[.string u, .int .i64 s, .int .i64 k], .agg #[.string v, .int .i64 t, .int .i64 l]] w fun e w' => e = .returned (.int .i64 (kcmp u s k v t l)) ∧ Below w.heap.size w w' := by
  go_enter Try.func12, Try.ntmps12
  go_wp2_with fail
  go_region_held3 (fun w' => w'.cell? ⟨w.heap.size, 0, none⟩ = some (.string u) ∧ w'.cell? ⟨w.heap.size, 1, none⟩ = some (.int .i64 s) ∧ w'.cell? ⟨w.heap.size, 2, none⟩ = some (.int .i64 k) ∧
     w'.cell? ⟨w.heap.size + 1, 0, none⟩ = some (.string v) ∧ w'.cell? ⟨w.heap.size + 1, 1, none⟩ = some (.int .i64 t) ∧ w'.cell? ⟨w.heap.size + 1, 2, none⟩ = some (.int .i64 l)) (go_keep)
     (first | (go_at_call 26; refine (cmpstr _ _ _).mono ?_; rintro e w' ⟨rfl, rfl⟩) | (go_at_call 27; refine (cmpint _ _ _).mono ?_; rintro e w' ⟨rfl, rfl⟩) | (go_at_call 25; refine (cmpor (Lib.compareBytes u.data.toList v.data.toList) (icmp t s) (icmp l k) _ (w.heap.size + 2) ?_ ?_ ?_).mono ?_; (go_simp); (go_simp); (go_simp); rintro e w' ⟨rfl, rfl⟩))
  go_wp2
  go_ret
  refine ⟨rfl, ?_⟩
  (repeat first | exact Below.refl _ _ | refine Below.drew ?_ | refine Below.alloc ?_ (by simp <;> omega) _ | refine Below.setCell ?_ (by simp <;> omega) _)

theorem keycmp' (u v : ByteArray) (s t k l : Int) (w : World) (p : Int) (h : kcmp u s k v t l = p) :
    Calls Try.prog 12 #[.agg #[.string u, .int .i64 s, .int .i64 k], .agg #[.string v, .int .i64 t, .int .i64 l]] w fun e w' => e = .returned (.int .i64 p) ∧ Below w.heap.size w w' := by
  subst h; exact keycmp u v s t k l w

/-! two keys, held against each other by '==' -/
theorem ksH : Try.prog.stoodInHeld 23 = false := by kernel_rfl
theorem ksF : Try.prog.underlying 23 = some (.struct (Try.prog.fieldsOf 23)) := by kernel_rfl
theorem ksG : Try.prog.eqGuardType Try.prog.depth 23 = false := by kernel_rfl
def keq (u : ByteArray) (s k : Int) (v : ByteArray) (t l : Int) : Bool := u.toList == v.toList && (s == t && k == l)
theorem eqKey (u v : ByteArray) (s t k l : Int) (w : World) : (binOp .eql 23 (.agg #[.string u, .int .i64 s, .int .i64 k]) (.agg #[.string v, .int .i64 t, .int .i64 l])).run Try.prog w = .ok (.bool (keq u s k v t l)) w := by
  rw [run_eql_struct, run_equalIn_agg w _ 23 _ _ ksF ksH]
  unfold keq
  simp [Program.fieldsOf, Try.underlying23, go_sem]
  split <;> (try split) <;> (try split) <;> simp_all
end Go.Proofs.Ytpnfpgjmpcnnnaa
