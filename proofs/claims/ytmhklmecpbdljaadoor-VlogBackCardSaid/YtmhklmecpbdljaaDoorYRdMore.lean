/- wire.Reader.Byte in whatever state, and a number of bytes read one behind the other. -/
import Derived.Test.YtmhklmecpbdljaaDoorYRd
namespace Go.Proofs.YtmhklmecpbdljaaDoor
open Go.RowKit
set_option linter.unusedVariables false

def rdB : List UInt8 → Bool → UInt8 × List UInt8 × Bool
  | l, true => (0, l, true)
  | [], false => (0, [], true)
  | c :: t, false => (c, t, false)

def ByteAny (w : World) (p : Nat) (go : Option Nat) (s : UInt8 × List UInt8 × Bool) (e : Ending) (w' : World) : Prop :=
  e = .returned (.int .u8 (s.1.toNat : Int)) ∧ RD w' p go s.2.1 s.2.2 ∧ w.grownBy w' (some p)

theorem byte_any {w : World} {p : Nat} {go : Option Nat} {l : List UInt8} {bad : Bool} (h : RD w p go l bad) :
    Calls Tryd.prog 70 #[.pointer (some ⟨p, 0, none⟩)] w (ByteAny w p go (rdB l bad)) := by
  cases bad with
  | true =>
    refine (byte_bad h (.inl rfl)).mono ?_
    rintro e w' ⟨rfl, h1, h2⟩
    have e1 : rdB l true = (0, l, true) := by cases l <;> rfl
    rw [e1]; exact ⟨rfl, h1, h2⟩
  | false =>
    cases l with
    | nil =>
      refine (byte_bad h (.inr rfl)).mono ?_
      rintro e w' ⟨rfl, h1, h2⟩
      exact ⟨rfl, h1, h2⟩
    | cons c t =>
      refine (byte_ok h).mono ?_
      rintro e w' ⟨rfl, h1, h2⟩
      exact ⟨rfl, h1, h2⟩

theorem grew {B : Nat} {w w1 w2 : World} {p : Nat} (h : Below B w w1) (hg : w1.grownBy w2 (some p)) (hp : B ≤ p) (hB : B ≤ w1.heap.size) : Below B w w2 :=
  ⟨hg.os.trans h.os, hg.tape.trans h.tape, hg.output.trans h.output, Nat.le_trans h.size hg.size, fun k hk => (hg.block k (by omega) (by intro e; cases e; omega)).trans (h.block k hk)⟩

theorem cell_three {w : World} {p : Nat} {a b c : Value} {T : TypeId} (h : w.heap[p]? = some (.cells #[a, b, c] T (0, 0))) :
    w.cell? ⟨p, 0, none⟩ = some a ∧ w.cell? ⟨p, 1, none⟩ = some b ∧ w.cell? ⟨p, 2, none⟩ = some c ∧ w.frozen? ⟨p, 0, none⟩ = false ∧ w.frozen? ⟨p, 1, none⟩ = false ∧ w.frozen? ⟨p, 2, none⟩ = false := by
  refine ⟨?_, ?_, ?_, ?_, ?_, ?_⟩
  · rw [cell_of_row _ _ _ _ _ _ h]; rfl
  · rw [cell_of_row _ _ _ _ _ _ h]; rfl
  · rw [cell_of_row _ _ _ _ _ _ h]; rfl
  · simp [World.frozen?, h]
  · simp [World.frozen?, h]
  · simp [World.frozen?, h]
theorem heap_set_row {w : World} {p : Nat} {cs : Array Value} {T : TypeId} {fr : Nat × Nat} (h : w.heap[p]? = some (.cells cs T fr)) (i : Nat) (v : Value) : (w.setCell ⟨p, i, none⟩ v).heap[p]? = some (.cells (cs.set! i v) T fr) := by
  simp only [World.setCell, Array.getElem?_modify, if_true, h]; rfl

theorem end_alloc {B : Nat} {w1 w3 : World} {p : Nat} {go : Option Nat} {l : List UInt8} {bad : Bool} (h : RD w3 p go l bad) (hb : Below B w1 w3) (hB : B ≤ w3.heap.size) (cs : Array Value) (T : TypeId) :
    ∃ q, Value.pointer (some ⟨w3.heap.size, 0, none⟩) = .pointer (some ⟨q, 0, none⟩) ∧ B ≤ q ∧ q ≠ p ∧ (w3.alloc (.cells cs T)).heap[q]? = some (.cells cs T (0, 0)) ∧ RD (w3.alloc (.cells cs T)) p go l bad ∧ Below B w1 (w3.alloc (.cells cs T)) := by
  have := h.lt
  exact ⟨_, rfl, hB, by omega, heap_alloc_new w3 _, h.below ((Below.refl _ w3).alloc (Nat.le_refl _) _), hb.alloc hB _⟩
theorem end_set {B : Nat} {w1 w3 : World} {p q : Nat} {go : Option Nat} {l : List UInt8} {bad : Bool} (h : RD w3 p go l bad) (hb : Below B w1 w3) {a b c : Value} {T : TypeId} (hk : w3.heap[q]? = some (.cells #[a, b, c] T (0, 0))) (hB : B ≤ q) (hq : q ≠ p) (hg : ∀ k, go = some k → k ≠ q) (x y z : Value) :
    ∃ q', Value.pointer (some ⟨q, 0, none⟩) = .pointer (some ⟨q', 0, none⟩) ∧ B ≤ q' ∧ q' ≠ p ∧ (((w3.setCell ⟨q, 0, none⟩ x).setCell ⟨q, 1, none⟩ y).setCell ⟨q, 2, none⟩ z).heap[q']? = some (.cells #[x, y, z] T (0, 0)) ∧ RD (((w3.setCell ⟨q, 0, none⟩ x).setCell ⟨q, 1, none⟩ y).setCell ⟨q, 2, none⟩ z) p go l bad ∧ Below B w1 (((w3.setCell ⟨q, 0, none⟩ x).setCell ⟨q, 1, none⟩ y).setCell ⟨q, 2, none⟩ z) := by
  have h3 := heap_set_row (heap_set_row (heap_set_row hk 0 x) 1 y) 2 z
  refine ⟨q, rfl, hB, hq, h3, ?_, ((hb.setCell hB _).setCell hB _).setCell hB _⟩
  refine h.kept (by simp [World.setCell]) fun k _ hk2 => ?_
  have hne : k ≠ q := by
    rcases hk2 with rfl | hk2
    · exact fun e => hq e.symm
    · exact hg k hk2
  rw [Below.heap_setCell _ _ _ _ hne, Below.heap_setCell _ _ _ _ hne, Below.heap_setCell _ _ _ _ hne]

/-- n bytes as a number, the greatest ahead -/
def rdN : Nat → List UInt8 → Nat × List UInt8 × Bool
  | 0, l => (0, l, false)
  | n + 1, l => (256 * (rdN n l).1 + (rdB (rdN n l).2.1 (rdN n l).2.2).1.toNat, (rdB (rdN n l).2.1 (rdN n l).2.2).2)
theorem rdN_lt (n : Nat) (l : List UInt8) : (rdN n l).1 < 256 ^ n := by
  induction n with
  | zero => simp [rdN]
  | succ n ih =>
    have h := (rdB (rdN n l).2.1 (rdN n l).2.2).1.toNat_lt
    simp only [rdN, Nat.pow_succ]
    omega

theorem or_byte (a c : Nat) (ha : a < 1099511627776) (hc : c < 256) : bits .or .i64 ((a : Int) * 256) (c : Int) = ((256 * a + c : Nat) : Int) := by
  have hx : a * 256 ||| c < 2 ^ 48 := Nat.or_lt_two_pow (by omega) (by omega)
  have hs : a * 256 ||| c = 256 * a + c := by
    have := Nat.two_pow_add_eq_or_of_lt (i := 8) (b := c) (by omega) a
    rw [Nat.mul_comm a 256]
    exact this.symm
  have e0 : ((a : Int) * 256) = ((a * 256 : Nat) : Int) := by omega
  rw [e0]
  have h1 : (BitVec.ofInt 64 ((a * 256 : Nat) : Int)).toNat = a * 256 := by
    rw [BitVec.ofInt_natCast, BitVec.toNat_ofNat]; exact Nat.mod_eq_of_lt (by omega)
  have h2 : (BitVec.ofInt 64 (c : Int)).toNat = c := by
    rw [BitVec.ofInt_natCast, BitVec.toNat_ofNat]; exact Nat.mod_eq_of_lt (by omega)
  show IntKind.i64.wrap ((BitVec.ofInt 64 ((a * 256 : Nat) : Int) ||| BitVec.ofInt 64 (c : Int)).toNat : Int) = _
  rw [BitVec.toNat_or, h1, h2, hs, IntKind.wrap_i64]
  omega
end Go.Proofs.YtmhklmecpbdljaaDoor
