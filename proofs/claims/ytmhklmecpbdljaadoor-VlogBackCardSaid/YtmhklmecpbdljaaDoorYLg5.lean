/- reclog.Log: Replay. -/
import Derived.Test.YtmhklmecpbdljaaDoorYJb
import Derived.Test.YtmhklmecpbdljaaDoorYJe
namespace Go.Proofs.YtmhklmecpbdljaaDoor
open Go.RowKit
set_option linter.unusedVariables false
set_option linter.unusedSimpArgs false

theorem RowR.past {W W' : World} {B : Nat} {u : Value} {xs : List RX} (h : RowR W B u xs) (hb : Below W.heap.size W W') : RowR W' B u xs :=
  ⟨row_past h.1 hb (Nat.le_refl _), fun x hx => ⟨(h.2 x hx).1.past hb (Nat.le_refl _), (h.2 x hx).2⟩⟩
theorem RowR.mono {W : World} {B C : Nat} {u : Value} {xs : List RX} (h : RowR W B u xs) (hC : C ≤ B) : RowR W C u xs :=
  ⟨row_mono h.1 hC, fun x hx => ⟨row_mono (h.2 x hx).1 hC, (h.2 x hx).2⟩⟩
theorem rxs_append (xs ys : List RX) : rxs (xs ++ ys) = rxs xs ++ rxs ys := by simp [rxs]
theorem RowR.app {W W' : World} {B : Nat} {u u' : Value} {xs ys : List RX} (h : RowR W B u xs) (hy : ∀ x ∈ ys, OB W B (.slice x.ao x.l.length x.c) x.l ∧ x.c ≤ maxLen) (ho : W'.ownsRow B 23 1 u' (xs.length + ys.length) (rxs xs ++ rxs ys)) (ha : App W W' u u') : RowR W' B u' (xs ++ ys) := by
  refine ⟨by rw [List.length_append, rxs_append]; exact ho, fun x hx => ?_⟩
  rw [List.mem_append] at hx
  rcases hx with hx | hx
  · exact ⟨(h.2 x hx).1.kept ha.grown (ob_row9 (h.2 x hx).1 h.1), (h.2 x hx).2⟩
  · exact ⟨(hy x hx).1.kept ha.grown (ob_row9 (hy x hx).1 h.1), (hy x hx).2⟩
theorem ScanIs.few {b : List UInt8} {L : List (List UInt8)} (h : ScanIs b L) : 5 * L.length ≤ b.length := by
  obtain ⟨_, r, hb, _⟩ := h
  have h1 := flR_len L
  have h2 := congrArg List.length hb
  rw [List.length_append] at h2
  have h3 : (flR L).length = (L.flatMap frB).length := rfl
  omega
theorem ScanIs.le {b : List UInt8} {L : List (List UInt8)} (h : ScanIs b L) : (flR L).length ≤ b.length ∧ ((flR L).length = b.length → flR L = b) := by
  obtain ⟨_, r, hb, _⟩ := h
  have h2 := congrArg List.length hb
  rw [List.length_append] at h2
  have h3 : (flR L).length = (L.flatMap frB).length := rfl
  refine ⟨by omega, fun e => ?_⟩
  have : r = [] := List.eq_nil_of_length_eq_zero (by omega)
  rw [hb, this, List.append_nil]; rfl
theorem zread_all {D : Dv} {k : Nat} (hd : D.down = false) (hk : k < D.n) (hA : k < D.A.length) : zread D (k : Nat) 0 (D.A[k].b.length : Nat) = (D.A[k].b, 0) := by
  rw [zread_in hd hk hA]
  unfold zrdb
  rw [if_neg (by omega)]
  simp
section
variable {w w' : World} {B q p : Nat} {v : Value} {G F : Nat → Prop} {D D' : Dv} {zs : List Nat}
end
end Go.Proofs.YtmhklmecpbdljaaDoor
