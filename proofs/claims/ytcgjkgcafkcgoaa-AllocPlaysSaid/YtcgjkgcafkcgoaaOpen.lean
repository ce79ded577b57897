/- How the arguments of the statements are read: lists of ints, of byte slices, of structs. -/
import Derived.Test.YtcgjkgcafkcgoaaLift
import Derived.Test.YtcgjkgcafkcgoaaInts
import Derived.Test.YtcgjkgcafkcgoaaItems
import Derived.Deep.Slices
import Derived.Deep.Fields
import Derived.ChangeSame
namespace Go.Proofs.Ytcgjkgcafkcgoaa
open Go.ChangeShapes Go.WideShapes Go.ChangeAt Go.RowKit Go.Joins Go.Deep
set_option linter.unusedVariables false

section
variable {H : Type} {enc : TypeId × Value → H} {W : World} {spare : Nat → Bool} {held : Bool} {base : Nat}

theorem rb_val {n : Nat} {v : Value} {y : DataW H × List MemPlace} (h : DataW.trod enc Try.prog W base spare held n 45 [v] = some y) : ∃ l, RB W v l ∧ l.length ≤ maxLen := by
  rcases open_ints Try.underlying45 Try.underlying5 (by kernel_rfl) h with ⟨hcs, _⟩ | ⟨x, len, c, zs, hcs, _, hl, hm, hz, _, hcell, hwz⟩
  · simp only [List.cons.injEq, and_true] at hcs
    subst hcs
    exact ⟨[], RB.nil _ _ _, by simp⟩
  · simp only [List.cons.injEq, and_true] at hcs
    subst hcs
    have hl2 : len ≤ zs.length := by rw [hz]; split <;> omega
    refine ⟨toB (zs.take len), ?_, by simp [toB]; omega⟩
    have hlen : (toB (zs.take len)).length = len := by simp [toB]; omega
    refine ⟨some x, c, by rw [hlen], by rw [hlen]; exact hl, fun hp => ?_⟩
    rw [hlen] at hp
    obtain ⟨b, off, spot⟩ := x
    have hc0 := hcell 0 (by omega)
    have hspot : spot = none := by simpa [Addr.add] using World.cell?_spot hc0
    subst hspot
    refine ⟨b, off, rfl, fun j hj => ?_⟩
    rw [hlen] at hj
    rw [← add_none, hcell j (by omega)]
    have hjz : j < zs.length := by omega
    have hwf := hwz zs[j] (List.getElem_mem hjz)
    have hbd := bounds_u8 hwf
    have e : (((toB (zs.take len))[j]'(by rw [hlen]; exact hj)).toNat : Int) = zs[j] := by
      have e2 : (toB (zs.take len))[j]'(by rw [hlen]; exact hj) = UInt8.ofNat (zs[j]).toNat := by simp [toB]
      rw [e2]
      have : (UInt8.ofNat (zs[j]).toNat).toNat = (zs[j]).toNat % 256 := by simp
      rw [this]
      omega
    rw [bv, e]
    simp [List.getD, hjz]

theorem ints_open {a : Option Addr} {len cap : Nat} {d : DataW H} {p : List MemPlace} (h : DataW.Trod enc Try.prog W base spare held 22 (.slice a len cap) d p) :
    ∃ l, len = l.length ∧ IR W a l ∧ l.length ≤ maxLen := by
  obtain ⟨fuel, hf⟩ := h
  rcases open_ints Try.underlying22 Try.underlying3 (by kernel_rfl) hf with ⟨hcs, _⟩ | ⟨x, len', c, zs, hcs, _, hl, hm, hz, _, hcell, hwz⟩
  · simp [Value.cells] at hcs
    obtain ⟨rfl, rfl, rfl⟩ := hcs
    exact ⟨[], rfl, ⟨fun h => by simp at h, fun x hx => by simp at hx⟩, by simp⟩
  · simp [Value.cells] at hcs
    obtain ⟨rfl, rfl, rfl⟩ := hcs
    have hl2 : len ≤ zs.length := by rw [hz]; split <;> omega
    have hlen : (zs.take len).length = len := by simp; omega
    refine ⟨zs.take len, hlen.symm, ⟨fun hp => ?_, fun y hy => bounds_i64 (hwz y (List.mem_of_mem_take hy))⟩, by omega⟩
    rw [hlen] at hp
    obtain ⟨b, off, spot⟩ := x
    have hc0 := hcell 0 (by omega)
    have hspot : spot = none := by simpa [Addr.add] using World.cell?_spot hc0
    subst hspot
    refine ⟨b, off, rfl, fun j hj => ?_⟩
    rw [hlen] at hj
    have hjz : j < zs.length := by omega
    rw [← add_none, hcell j hjz]
    simp [List.getD, hjz]

theorem open_slice_fields {P : Program} {w : World} {t e : TypeId} {fs : Array Field} {fuel : Nat} {cs : List Value} {x : DataW H × List MemPlace} (ht : P.underlying t = some (.slice e)) (he : P.underlying e = some (.struct fs))
    (hone : oneCellFields P fs = true) (hC : P.cellsOf e = fs.size) (h : DataW.trod enc P w base spare held fuel t cs = some x) :
    (cs = [.slice none 0 0] ∧ x = (.nil, [])) ∨
    ∃ (a : Addr) (len cap m : Nat), cs = [.slice (some a) len cap] ∧ len ≤ cap ∧ cap ≤ maxLen ∧ len ≤ m ∧
      ∀ i, i < m → ∃ n : Nat, ∀ (j : Nat) (f : Field), fs[j]? = some f → ∃ (v : Value) (y : DataW H × List MemPlace), w.cell? (a.add (i * fs.size + j)) = some v ∧ DataW.trod enc P w base spare held n f.type [v] = some y := by
  rcases open_slice ht h with h0 | ⟨a, len, cap, m, n, D, Pl, hcs, hb, hl, hm, hmm, hx, hi⟩
  · exact .inl h0
  · refine .inr ⟨a, len, cap, m, hcs, hl, hm, by rw [hmm]; split <;> omega, fun i him => ?_⟩
    obtain ⟨cs', hc, ht'⟩ := hi i him
    rw [hC] at hc
    obtain ⟨ys, n', hn', hy, hlen, hyl, hf⟩ := DataW.trod_struct he ht'
    obtain ⟨_, hcl, hat⟩ := World.cells?_some hc
    refine ⟨n', fun j f hj => ?_⟩
    obtain ⟨ho, hk⟩ := hone_of hone j f hj
    have hjl : j < fs.size := (Array.getElem?_eq_some_iff.1 hj).1
    have hcell := hat j hjl
    have hv : cs'[j]? = some (cs'[j]'(by omega)) := List.getElem?_eq_getElem (by omega)
    have h1 := hf j f hj
    rw [ho, hk] at h1
    have hone' : (cs'.drop j).take 1 = [cs'[j]'(by omega)] := by
      rw [List.drop_eq_getElem_cons (by omega)]
      rfl
    rw [hone'] at h1
    have hys : ys[j]? = some (ys[j]'(by omega)) := List.getElem?_eq_getElem (by omega)
    refine ⟨_, _, ?_, h1.trans hys⟩
    rw [← Go.Deep.add_add, hcell, hv]

instance : Inhabited ItemD := ⟨⟨0, 0, .nilFunc, []⟩⟩
end
end Go.Proofs.Ytcgjkgcafkcgoaa
