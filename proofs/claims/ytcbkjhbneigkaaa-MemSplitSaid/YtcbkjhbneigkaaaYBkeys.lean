/- BatchKeys: its walk. -/
import Derived.Test.YtcbkjhbneigkaaaYBaw
namespace Go.Proofs.Ytcbkjhbneigkaaa
open Go.RowKit
set_option linter.unusedVariables false

theorem keyRow_len (seq : Int) (l : List OpD) : ∀ n, (keyRow seq l n).length = n * 3
  | 0 => rfl
  | n + 1 => by rw [keyRow_succ, List.length_append, keyRow_len seq l n]; simp; omega
theorem keyRow_at (seq : Int) (l : List OpD) (k : Nat) : ∀ n, k < n → (keyRow seq l n)[k * 3]? = some (.string (opAt l k).key) ∧ (keyRow seq l n)[k * 3 + 1]? = some (.int .i64 (seq + k)) ∧ (keyRow seq l n)[k * 3 + 2]? = some (.int .i64 (opAt l k).kind)
  | n + 1, h => by
    rw [keyRow_succ]
    have hlen := keyRow_len seq l n
    by_cases e : k = n
    · subst e
      refine ⟨?_, ?_, ?_⟩
      · rw [List.getElem?_append_right (by omega), show k * 3 - (keyRow seq l k).length = 0 by omega]; rfl
      · rw [List.getElem?_append_right (by omega), show k * 3 + 1 - (keyRow seq l k).length = 1 by omega]; rfl
      · rw [List.getElem?_append_right (by omega), show k * 3 + 2 - (keyRow seq l k).length = 2 by omega]; rfl
    · obtain ⟨h1, h2, h3⟩ := keyRow_at seq l k n (by omega)
      refine ⟨?_, ?_, ?_⟩
      · rw [List.getElem?_append_left (by omega)]; exact h1
      · rw [List.getElem?_append_left (by omega)]; exact h2
      · rw [List.getElem?_append_left (by omega)]; exact h3
/-- the row of keys, read -/
def KeyCells (w : World) (g off : Nat) (seq : Int) (l : List OpD) : Prop :=
  ∀ k (h : k < l.length), w.cell? ⟨g, off + k * 3, none⟩ = some (.string l[k].key) ∧ w.cell? ⟨g, off + k * 3 + 1, none⟩ = some (.int .i64 (seq + k)) ∧ w.cell? ⟨g, off + k * 3 + 2, none⟩ = some (.int .i64 l[k].kind)
theorem KeyCells.below {w w' : World} {g off : Nat} {seq : Int} {l : List OpD} (h : KeyCells w g off seq l) (hb : Below w.heap.size w w') : KeyCells w' g off seq l := fun k hk =>
  ⟨cell_next (h k hk).1 _ hb, cell_next (h k hk).2.1 _ hb, cell_next (h k hk).2.2 _ hb⟩
theorem key_cells {w : World} {B : Nat} {v : Value} {seq : Int} {l : List OpD} (h : w.ownsRow B 34 3 v l.length (keyRow seq l l.length)) (hl : 0 < l.length) : ∃ g off c, v = .slice (some ⟨g, off, none⟩) l.length c ∧ KeyCells w g off seq l := by
  obtain ⟨ao, c, rfl, _, _, hs⟩ := row_shape h
  obtain ⟨g, rfl, _⟩ := hs hl
  refine ⟨g, 0, c, rfl, fun k hk => ?_⟩
  obtain ⟨h1, h2, h3⟩ := keyRow_at seq l k l.length hk
  have e : opAt l k = l[k] := by unfold opAt; rw [List.getD, List.getElem?_eq_getElem hk]; rfl
  rw [e] at h1 h3
  rw [Nat.zero_add]
  refine ⟨?_, ?_, ?_⟩
  · rw [World.ownsRow.cellAt h _ (by omega)]; exact h1
  · rw [World.ownsRow.cellAt h _ (by omega)]; exact h2
  · rw [World.ownsRow.cellAt h _ (by omega)]; exact h3

theorem batRight_op {x : OpD} (h : opRight x = true) : 1 ≤ x.kind ∧ x.kind ≤ 3 ∧ 1 ≤ x.key.size ∧ x.key.size ≤ 64 := by
  unfold opRight at h
  simp only [decide_eq_true_eq] at h
  omega

theorem batlast_ok {w : World} {a : Option Addr} {c : Nat} {l : List OpD} (h : OPs w a l) (hl : l.length ≤ maxLen) (seq : Int) (hr : batRight seq l = true) :
    Calls Try.prog 29 #[.agg #[.int .i64 seq, .slice a l.length c]] w fun e w' => e = .returned (.int .i64 (seq + l.length - 1)) ∧ Below w.heap.size w w' := by
  have := batlast (c := c) h hl seq
  rw [show batLast seq l = seq + l.length - 1 by unfold batLast; rw [hr, if_pos rfl]] at this
  exact this

end Go.Proofs.Ytcbkjhbneigkaaa
