/- Contracts of ikey.Key: Check and Cmp: each for every key. -/
import Derived.Test.YtmhklmecpbdljaaDoorYJm
namespace Go.Proofs.YtmhklmecpbdljaaDoor
open Go.RowKit
set_option linter.unusedVariables false

/-- a key as a value -/
def keyv (u : ByteArray) (s k : Int) : Value := .agg #[.string u, .int .i64 s, .int .i64 k]

def keyRight (u : ByteArray) (s k : Int) : Bool := decide (1 ≤ u.size ∧ u.size ≤ 64 ∧ 0 ≤ s ∧ s ≤ 1099511627776 ∧ 1 ≤ k ∧ k ≤ 3)

theorem check_ok (u : ByteArray) (s k : Int) (w : World) (h : keyRight u s k = true) :
    Calls Tryd.prog 75 #[.agg #[.string u, .int .i64 s, .int .i64 k]] w fun e w' => e = .returned (.int .i64 0) ∧ w.alloc (.cells #[.string u, .int .i64 s, .int .i64 k] 27) = w' := by
  simp only [keyRight, decide_eq_true_eq] at h
  obtain ⟨h1, h2, h3, h4, h5, h6⟩ := h
  go_enter Tryd.func75, Tryd.ntmps75
  go_wp2
  go_ret
  exact ⟨rfl, rfl⟩

theorem check_bad (u : ByteArray) (s k : Int) (w : World) (h : keyRight u s k = false) :
    Calls Tryd.prog 75 #[.agg #[.string u, .int .i64 s, .int .i64 k]] w fun e w' => e = .returned (.int .i64 30) ∧ w.alloc (.cells #[.string u, .int .i64 s, .int .i64 k] 27) = w' := by
  simp only [keyRight, decide_eq_false_iff_not] at h
  by_cases h1 : 1 ≤ u.size
  · by_cases h2 : u.size ≤ 64
    · by_cases h3 : 0 ≤ s
      · by_cases h4 : s ≤ 1099511627776
        · by_cases h5 : 1 ≤ k
          · have h6 : 3 < k := by omega
            clear h
            go_enter Tryd.func75, Tryd.ntmps75
            go_wp2
            go_ret
            exact ⟨rfl, rfl⟩
          · have h6 : k < 1 := by omega
            clear h h5
            go_enter Tryd.func75, Tryd.ntmps75
            go_wp2
            go_ret
            exact ⟨rfl, rfl⟩
        · have h6 : 1099511627776 < s := by omega
          clear h h4
          go_enter Tryd.func75, Tryd.ntmps75
          go_wp2
          go_ret
          exact ⟨rfl, rfl⟩
      · have h6 : s < 0 := by omega
        clear h h3
        go_enter Tryd.func75, Tryd.ntmps75
        go_wp2
        go_ret
        exact ⟨rfl, rfl⟩
    · have h6 : 64 < u.size := by omega
      clear h h2
      go_enter Tryd.func75, Tryd.ntmps75
      go_wp2
      go_ret
      exact ⟨rfl, rfl⟩
  · have h6 : u.size < 1 := by omega
    clear h h1
    go_enter Tryd.func75, Tryd.ntmps75
    go_wp2
    go_ret
    exact ⟨rfl, rfl⟩

/-- which of two keys stands first -/
def kcmp (u : ByteArray) (s k : Int) (v : ByteArray) (t l : Int) : Int := or3 (Lib.compareBytes u.data.toList v.data.toList) (icmp t s) (icmp l k)

/-! two keys, held against each other by '==' -/
theorem ksH : Tryd.prog.stoodInHeld 27 = false := by kernel_rfl
theorem ksF : Tryd.prog.underlying 27 = some (.struct (Tryd.prog.fieldsOf 27)) := by kernel_rfl
theorem ksG : Tryd.prog.eqGuardType Tryd.prog.depth 27 = false := by kernel_rfl
def keq (u : ByteArray) (s k : Int) (v : ByteArray) (t l : Int) : Bool := u.toList == v.toList && (s == t && k == l)
theorem eqKey (u v : ByteArray) (s t k l : Int) (w : World) : (binOp .eql 27 (.agg #[.string u, .int .i64 s, .int .i64 k]) (.agg #[.string v, .int .i64 t, .int .i64 l])).run Tryd.prog w = .ok (.bool (keq u s k v t l)) w := by
  rw [run_eql_struct, run_equalIn_agg w _ 27 _ _ ksF ksH]
  unfold keq
  simp [Program.fieldsOf, Tryd.underlying27, go_sem]
  split <;> (try split) <;> (try split) <;> simp_all
end Go.Proofs.YtmhklmecpbdljaaDoor
