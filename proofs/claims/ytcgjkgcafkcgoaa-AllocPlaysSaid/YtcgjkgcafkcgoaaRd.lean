/- Contracts of wire.Reader: NewReader, Raw, Byte, Done; and of bytes.Clone. -/
import Derived.Test.YtcgjkgcafkcgoaaBase
namespace Go.Proofs.Ytcgjkgcafkcgoaa
open Go.RowKit
set_option linter.unusedVariables false

theorem cell_two {w : World} {p : Nat} {a b : Value} {T : TypeId} (h : w.heap[p]? = some (.cells #[a, b] T (0, 0))) : w.cell? ⟨p, 0, none⟩ = some a ∧ w.cell? ⟨p, 1, none⟩ = some b ∧ w.frozen? ⟨p, 0, none⟩ = false ∧ w.frozen? ⟨p, 1, none⟩ = false := by
  refine ⟨?_, ?_, ?_, ?_⟩
  · rw [cell_of_row _ _ _ _ _ _ h]; rfl
  · rw [cell_of_row _ _ _ _ _ _ h]; rfl
  · simp [World.frozen?, h]
  · simp [World.frozen?, h]
theorem heap_set0 {w : World} {p : Nat} {a b v : Value} {T : TypeId} (h : w.heap[p]? = some (.cells #[a, b] T (0, 0))) : (w.setCell ⟨p, 0, none⟩ v).heap[p]? = some (.cells #[v, b] T (0, 0)) := by
  simp only [World.setCell, Array.getElem?_modify, if_true, h]; rfl
theorem heap_set1 {w : World} {p : Nat} {a b v : Value} {T : TypeId} (h : w.heap[p]? = some (.cells #[a, b] T (0, 0))) : (w.setCell ⟨p, 1, none⟩ v).heap[p]? = some (.cells #[a, v] T (0, 0)) := by
  simp only [World.setCell, Array.getElem?_modify, if_true, h]; rfl
theorem grown_set (w : World) (p o : Nat) (v : Value) : w.grownBy (w.setCell ⟨p, o, none⟩ v) (some p) :=
  ⟨rfl, rfl, rfl, by simp [World.setCell], fun k _ hne => Below.heap_setCell _ _ _ _ (fun e => hne (by rw [e]))⟩

theorem rb_take {w : World} {b off c c' : Nat} {l : List UInt8} {n : Nat} (h : RB w (.slice (some ⟨b, off, none⟩) l.length c) l) (hn : n ≤ l.length) (hc : n ≤ c') : RB w (.slice (some ⟨b, off, none⟩) n c') (l.take n) := by
  obtain ⟨ao, c2, hv, hc2, hr⟩ := h
  simp only [Value.slice.injEq] at hv
  obtain ⟨rfl, _, rfl⟩ := hv
  have hl : (l.take n).length = n := by rw [List.length_take]; omega
  refine ⟨_, c', by rw [hl], by rw [hl]; exact hc, fun hp => ?_⟩
  rw [hl] at hp
  obtain ⟨b2, off2, hb, hcell⟩ := hr (by omega)
  cases hb
  refine ⟨_, _, rfl, fun j hj => ?_⟩
  rw [hl] at hj
  rw [hcell j (by omega)]
  simp
theorem rb_drop {w : World} {b off c c' : Nat} {l : List UInt8} {n : Nat} (h : RB w (.slice (some ⟨b, off, none⟩) l.length c) l) (hn : n ≤ l.length) (hc : l.length - n ≤ c') : RB w (.slice (some ⟨b, off + n, none⟩) (l.length - n) c') (l.drop n) := by
  obtain ⟨ao, c2, hv, hc2, hr⟩ := h
  simp only [Value.slice.injEq] at hv
  obtain ⟨rfl, _, rfl⟩ := hv
  have hl : (l.drop n).length = l.length - n := List.length_drop
  refine ⟨_, c', by rw [hl], by rw [hl]; exact hc, fun hp => ?_⟩
  rw [hl] at hp
  obtain ⟨b2, off2, hb, hcell⟩ := hr (by omega)
  cases hb
  refine ⟨_, _, rfl, fun j hj => ?_⟩
  rw [hl] at hj
  rw [Nat.add_assoc, hcell (n + j) (by omega)]
  simp

theorem RB.capl {w : World} {a : Option Addr} {n c : Nat} {l : List UInt8} (h : RB w (.slice a n c) l) : n ≤ c := by
  obtain ⟨ao, c', hv, hc, _⟩ := h; simp only [Value.slice.injEq] at hv; obtain ⟨_, rfl, rfl⟩ := hv; exact hc
theorem RB.addr {w : World} {a : Option Addr} {n c : Nat} {l : List UInt8} (h : RB w (.slice a n c) l) (hl : 0 < l.length) : ∃ b off, a = some ⟨b, off, none⟩ := by
  obtain ⟨ao, c', hv, hc, hr⟩ := h
  simp only [Value.slice.injEq] at hv
  obtain ⟨b, off, hb, _⟩ := hr hl
  exact ⟨b, off, by rw [hv.1, hb]⟩

theorem rb_set {w : World} {p : Nat} {go : Option Nat} {m : List UInt8} {a' : Option Addr} {n' c' : Nat} {v : Value} (hg : ∀ k, go = some k → k < w.heap.size ∧ k ≠ p) (hb : RB w (.slice a' n' c') m) (ho : ∀ k, (Value.slice a' n' c').ownBlock = some k → go = some k) (o : Nat) :
    RB (w.setCell ⟨p, o, none⟩ v) (.slice a' n' c') m := by
  refine hb.same fun b off hlt _ ⟨o, n2, c2, hv⟩ => ?_
  have := ho b (by rw [hv]; rfl)
  exact Below.heap_setCell _ _ _ _ (fun e => (hg b this).2 e)

/-- a copy in new memory; nil just where it was nil -/
def CloneOut (w : World) (v : Value) (l : List UInt8) (e : Ending) (w' : World) : Prop :=
  ∃ v', e = .returned v' ∧ OB w' w.heap.size v' l ∧ Below w.heap.size w w' ∧ (v' = .slice none 0 0 ↔ ∃ n c, v = .slice none n c) ∧ (∃ ao n c, v' = .slice ao n c ∧ c ≤ maxLen)

theorem OB.shape {w : World} {B : Nat} {v : Value} {l : List UInt8} (h : OB w B v l) : ∃ ao n c, v = .slice ao n c ∧ c ≤ maxLen := by
  rcases h.2 with ⟨h1, _⟩ | ⟨g, cap, cur, hv, _, _, _, hm, _⟩
  · exact ⟨_, _, _, h1, by decide⟩
  · exact ⟨_, _, _, hv, hm⟩

end Go.Proofs.Ytcgjkgcafkcgoaa
