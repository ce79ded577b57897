/- A device of zones: reading. -/
import Derived.Test.YtcgjkgcafkcgoaaZb
namespace Go.Proofs.Ytcgjkgcafkcgoaa
open Go.RowKit
set_option linter.unusedVariables false
set_option linter.unusedSimpArgs false

/-- what a reading of a zone's bytes tells -/
def zrdb (b : List UInt8) (at' n : Int) : List UInt8 × Int := if at' < 0 ∨ n < 0 ∨ (b.length : Int) < at' ∨ (b.length : Int) - at' < n then ([], 70) else ((b.drop at'.toNat).take n.toNat, 0)
def zread (D : Dv) (z at' n : Int) : List UInt8 × Int :=
  if zfnd D z ≠ 0 then ([], zfnd D z) else if h : z.toNat < D.A.length then zrdb D.A[z.toNat].b at' n else ([], 70)
theorem zread_bad {D : Dv} {z at' n : Int} (h : D.down = true ∨ z < 0 ∨ (D.n : Int) ≤ z) : zread D z at' n = ([], zfnd D z) := by
  unfold zread
  have : zfnd D z ≠ 0 := by
    unfold zfnd
    split
    · decide
    · rw [if_pos (by rcases h with h | h | h; contradiction; exact .inl h; exact .inr h)]; decide
  rw [if_pos this]
theorem zread_in {D : Dv} {m : Nat} (hd : D.down = false) (hm : m < D.n) (hA : m < D.A.length) (at' n : Int) : zread D m at' n = zrdb D.A[m].b at' n := by
  unfold zread
  rw [if_neg (by rw [zfnd_in hd hm]; simp), dif_pos (by simpa using hA)]
  rfl
theorem zcases (D : Dv) (z : Int) : (D.down = true ∨ z < 0 ∨ (D.n : Int) ≤ z) ∨ (D.down = false ∧ ∃ m : Nat, z = m ∧ m < D.n) := by
  cases h : D.down with
  | true => exact .inl (.inl rfl)
  | false =>
    by_cases hz : z < 0 ∨ (D.n : Int) ≤ z
    · exact .inl (.inr hz)
    · exact .inr ⟨rfl, z.toNat, by omega, by omega⟩
theorem rb_sub {w : World} {B g c : Nat} {l : List UInt8} (h : OB w B (.slice (some ⟨g, 0, none⟩) l.length c) l) (i n : Nat) (hi : i + n ≤ l.length) : RB w (.slice (some ⟨g, i, none⟩) n (c - i)) ((l.drop i).take n) := by
  have hr := h.reads
  have hc := hr.capl
  have h1 := rb_drop (c' := c - i) (n := i) hr (by omega) (by omega)
  have e : l.length - i = (l.drop i).length := by rw [List.length_drop]
  rw [e] at h1
  have h2 := rb_take (c' := c - i) (n := n) h1 (by rw [List.length_drop]; omega) (by omega)
  rw [Nat.zero_add] at h2
  exact h2
theorem DM.zn2 {w : World} {B p r : Nat} {Z : List Zm} {D : Dv} (h : DM w B p r Z D) (k : Nat) (hk : k < Z.length) :
    (Z[k].v = .slice none 0 0 ∧ Z[k].z.b = []) ∨ ∃ g c, Z[k].v = .slice (some ⟨g, 0, none⟩) Z[k].z.b.length c ∧ Z[k].z.b.length ≤ c ∧ c ≤ maxLen ∧ g ≠ p ∧ g ≠ r := by
  have ho := h.ent _ (List.getElem_mem hk)
  rcases ho.2 with ⟨h1, h2⟩ | ⟨g, cap, cur, hv, _, _, hc, hm, _⟩
  · exact .inl ⟨h1, List.eq_nil_of_length_eq_zero h2⟩
  · have hof := h.off _ (List.getElem_mem hk)
    rw [hv] at hof
    exact .inr ⟨g, cap, hv, hc, hm, fun e => hof.1 (by rw [e]; rfl), fun e => hof.2 (by rw [e]; rfl)⟩
end Go.Proofs.Ytcgjkgcafkcgoaa
