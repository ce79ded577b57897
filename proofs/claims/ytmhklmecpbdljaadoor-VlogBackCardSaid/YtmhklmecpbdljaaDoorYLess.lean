/- Contracts of bytes.Compare, Less and Same, over byte slices that are read. -/
import Derived.Test.YtmhklmecpbdljaaDoorYJm
namespace Go.Proofs.YtmhklmecpbdljaaDoor
open Go.RowKit
set_option linter.unusedVariables false

theorem run_loadBytes {w : World} (b off : Nat) (l : List UInt8) (acc : ByteArray) (h : ∀ j (hj : j < l.length), w.cell? ⟨b, off + j, none⟩ = some (bv l[j])) :
    (Extern.Bytes.loadBytes ⟨b, off, none⟩ l.length acc).run Tryd.prog w = .ok ⟨acc.data ++ l.toArray⟩ w := by
  induction l generalizing off acc with
  | nil => simp [Extern.Bytes.loadBytes, Sem.run_pure]
  | cons c l ih =>
    have h0 := h 0 (by simp)
    have h1 := ih (off + 1) (acc.push c) (fun j hj => by have := h (j + 1) (by simpa using hj); rw [Nat.add_assoc, Nat.add_comm 1 j]; simpa using this)
    have ha : (⟨b, off, none⟩ : Addr).add 1 = ⟨b, off + 1, none⟩ := add_none b off 1
    have hc : w.cell? ⟨b, off, none⟩ = some (.int .u8 (c.toNat : Int)) := by simpa [bv] using h0
    have e : (((c.toNat : Int)).toNat).toUInt8 = c := by simp
    rw [List.length_cons, Extern.Bytes.loadBytes]
    simp only [Sem.run_bind, load, Sem.run, hc, Result.andThen, ha]
    rw [e, h1]
    simp [ByteArray.push]

theorem RB.bytesOf {w : World} {v : Value} {l : List UInt8} (h : RB w v l) : (Extern.Bytes.bytesOf v).run Tryd.prog w = .ok ⟨l.toArray⟩ w := by
  obtain ⟨ao, c, rfl, hc, hr⟩ := h
  cases ao with
  | none =>
    have : l = [] := by
      rcases Nat.eq_zero_or_pos l.length with h0 | h0
      · exact List.eq_nil_of_length_eq_zero h0
      · obtain ⟨b, off, hb, _⟩ := hr h0; cases hb
    subst this
    rfl
  | some a =>
    by_cases hl : 0 < l.length
    · obtain ⟨b, off, hb, hcell⟩ := hr hl
      cases hb
      have := run_loadBytes b off l .empty hcell
      simpa [Extern.Bytes.bytesOf] using this
    · have : l = [] := List.eq_nil_of_length_eq_zero (by omega)
      subst this
      rfl

theorem RB.compare {w : World} {v u : Value} {l m : List UInt8} (h : RB w v l) (k : RB w u m) :
    (Extern.BytealgCompare.compare #[v, u]).run Tryd.prog w = .ok (.int .i64 (Lib.compareBytes l m)) w := by
  change Sem.run Tryd.prog (do pure (goInt (Extern.BytealgCompare.cmp (← Extern.Bytes.bytesOf v) (← Extern.Bytes.bytesOf u)))) w = _
  simp only [Sem.run_bind, h.bytesOf, k.bytesOf, Sem.run_pure, Result.andThen]
  rw [Lib.cmp_eq]
  rfl

theorem same_any {w : World} {v u : Value} {l m : List UInt8} (h : RB w v l) (k : RB w u m) :
    Calls Tryd.prog 20 #[v, u] w fun e w' => e = .returned (.bool (l == m)) ∧ w = w' := by
  have h1 := h.string
  have h2 := k.string
  go_enter Tryd.func20, Tryd.ntmps20
  go_wp2
  go_ret
  exact ⟨by simp, rfl⟩
theorem same_b {w : World} {v u : Value} {l m : List UInt8} (h : RB w v l) (k : RB w u m) (z : Bool) (hz : (l == m) = z) :
    Calls Tryd.prog 20 #[v, u] w fun e w' => e = .returned (.bool z) ∧ Below w.heap.size w w' := by
  subst hz; exact (same_any h k).mono fun _ _ ⟨h1, h2⟩ => ⟨h1, by rw [← h2]; exact Below.refl _ _⟩
end Go.Proofs.YtmhklmecpbdljaaDoor
