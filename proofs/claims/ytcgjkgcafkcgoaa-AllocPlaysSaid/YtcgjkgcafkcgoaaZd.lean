/- A device of zones: Append. -/
import Derived.Test.YtcgjkgcafkcgoaaZc
namespace Go.Proofs.Ytcgjkgcafkcgoaa
open Go.RowKit
set_option linter.unusedVariables false
set_option linter.unusedSimpArgs false

def zappA (D : Dv) (k : Nat) (a : Zn) (m : List UInt8) : Dv × Int :=
  if a.st = 2 then (D, 71) else if a.st = 0 ∧ D.op ≤ zopn D.A then (D, 72) else if D.size < a.b.length + m.length then (D, 73)
  else zcmd { D with A := D.A.set k ⟨if a.b.length + m.length = D.size then 2 else 1, a.b ++ m, a.fl⟩ }
def zapp (D : Dv) (z : Int) (m : List UInt8) : Dv × Int :=
  if zfnd D z ≠ 0 then (D, zfnd D z) else if h : z.toNat < D.A.length then zappA D z.toNat D.A[z.toNat] m else (D, 70)
theorem zfnd_ne {D : Dv} {z : Int} (h : D.down = true ∨ z < 0 ∨ (D.n : Int) ≤ z) : zfnd D z ≠ 0 ∧ (zfnd D z = 74 ∨ zfnd D z = 70) := by
  unfold zfnd
  split
  · exact ⟨by decide, .inl rfl⟩
  · rw [if_pos (by rcases h with h | h | h; contradiction; exact .inl h; exact .inr h)]; exact ⟨by decide, .inr rfl⟩
theorem zapp_bad {D : Dv} {z : Int} {m : List UInt8} (h : D.down = true ∨ z < 0 ∨ (D.n : Int) ≤ z) : zapp D z m = (D, zfnd D z) := if_pos (zfnd_ne h).1
theorem zapp_in {D : Dv} {k : Nat} (hd : D.down = false) (hm : k < D.n) (hA : k < D.A.length) (m : List UInt8) : zapp D k m = zappA D k D.A[k] m := by
  unfold zapp
  rw [if_neg (by rw [zfnd_in hd hm]; simp), dif_pos (by simpa using hA)]
  rfl
theorem DM.appKeep {w w1 : World} {B p r : Nat} {Z : List Zm} {D : Dv} (h : DM w B p r Z D) (k : Nat) (hk : k < Z.length) {v1 : Value} (hold : OB w1 B Z[k].v Z[k].z.b) (ha : App w w1 Z[k].v v1) : DM w1 B p r Z D := by
  have hc := Chg.of_app ha
  have hof := h.off _ (List.getElem_mem hk)
  refine ⟨blk_chg h.box hc hof.1, row_same h.row fun q hq => hc.block q (World.ownsRow.lt h.row q hq).2 (fun e => hof.2 (by rw [e]; simpa [Value.ownBlock] using hq.symm)), ?_, h.apart, h.off, h.pr, h.low, h.abs, h.ok⟩
  intro x hx
  obtain ⟨i, hi, rfl⟩ := List.getElem_of_mem hx
  by_cases e : i = k
  · subst e; exact hold
  · exact (h.ent _ hx).chg hc fun q hq e2 => e (h.apart i k hi hk q hq e2)
/-- what an append made is stored -/
theorem DM.appPut {w w1 : World} {B p r : Nat} {Z : List Zm} {D : Dv} (h : DM w B p r Z D) (k : Nat) (hk : k < Z.length) {v1 : Value} {m : List UInt8} (ho : OB w1 B v1 (Z[k].z.b ++ m)) (hold : OB w1 B Z[k].v Z[k].z.b) (ha : App w w1 Z[k].v v1) (hlen : Z[k].z.b.length + m.length ≤ D.size) :
    DM (w1.setCell ⟨r, k * 3 + 1, none⟩ v1) B p r (Z.set k ⟨⟨Z[k].z.st, Z[k].z.b ++ m, Z[k].z.fl⟩, v1⟩) { D with A := D.A.set k ⟨Z[k].z.st, Z[k].z.b ++ m, Z[k].z.fl⟩ } ∧ Chg (fpD p r Z) w (w1.setCell ⟨r, k * 3 + 1, none⟩ v1) ∧
      ∀ q, fpD p r (Z.set k ⟨⟨Z[k].z.st, Z[k].z.b ++ m, Z[k].z.fl⟩, v1⟩) q → fpD p r Z q ∨ w.heap.size ≤ q := by
  have hD := h.appKeep k hk hold ha
  have hok := h.ok.zs _ (by rw [← h.abs]; exact List.mem_map.2 ⟨Z[k], List.getElem_mem hk, rfl⟩)
  have hv : ∀ q, v1.ownBlock = some q → Z[k].v.ownBlock = some q ∨ w.heap.size ≤ q := fun q hq => by
    rcases ha.lies with e | ⟨g, e, hg⟩
    · exact .inl (by rw [← e]; exact hq)
    · rw [e] at hq; cases hq; exact .inr hg
  refine ⟨hD.putZ k hk _ v1 ⟨⟨Z[k].z.st, Z[k].z.b ++ m, Z[k].z.fl⟩, v1⟩ (zrow_set1 Z k hk v1 _) ho (fun q hq => ?_) ⟨by simp only [List.length_append]; exact hlen, by simp only [List.length_append]; have := hok.fl; omega, hok.st⟩, ?_, ?_⟩
  · rcases hv q hq with h1 | h1
    · exact .inl h1
    · exact .inr fun hf => by have := h.lt q hf; omega
  · exact ((Chg.of_app ha).mono fun q hq => .inr (.inr ⟨_, List.getElem_mem hk, hq⟩)).trans ((Chg.set w1 r _ v1).mono fun q hq => .inr (.inl hq))
  · intro q hq
    rcases fpD_set hk hq with h1 | h1
    · exact .inl h1
    · rcases hv q h1 with h2 | h2
      · exact .inl (.inr (.inr ⟨_, List.getElem_mem hk, h2⟩))
      · exact .inr h2
/-- a zone's state is set -/
theorem DM.putSt {w : World} {B p r : Nat} {Z : List Zm} {D : Dv} (h : DM w B p r Z D) (k : Nat) (hk : k < Z.length) (s : Nat) (hs : s ≤ 2) :
    DM (w.setCell ⟨r, k * 3, none⟩ (.int .i64 (s : Nat))) B p r (Z.set k ⟨⟨s, Z[k].z.b, Z[k].z.fl⟩, Z[k].v⟩) { D with A := D.A.set k ⟨s, Z[k].z.b, Z[k].z.fl⟩ } := by
  have hok := h.ok.zs _ (by rw [← h.abs]; exact List.mem_map.2 ⟨Z[k], List.getElem_mem hk, rfl⟩)
  exact h.putZ k hk _ _ ⟨⟨s, Z[k].z.b, Z[k].z.fl⟩, Z[k].v⟩ (zrow_set0 Z k hk s) (show OB w B Z[k].v Z[k].z.b from h.ent _ (List.getElem_mem hk)) (fun q hq => .inl hq) ⟨hok.len, hok.fl, hs⟩
theorem DM.putFl {w : World} {B p r : Nat} {Z : List Zm} {D : Dv} (h : DM w B p r Z D) (k : Nat) (hk : k < Z.length) (f : Nat) (hs : f ≤ Z[k].z.b.length) :
    DM (w.setCell ⟨r, k * 3 + 2, none⟩ (.int .i64 (f : Nat))) B p r (Z.set k ⟨⟨Z[k].z.st, Z[k].z.b, f⟩, Z[k].v⟩) { D with A := D.A.set k ⟨Z[k].z.st, Z[k].z.b, f⟩ } := by
  have hok := h.ok.zs _ (by rw [← h.abs]; exact List.mem_map.2 ⟨Z[k], List.getElem_mem hk, rfl⟩)
  exact h.putZ k hk _ _ ⟨⟨Z[k].z.st, Z[k].z.b, f⟩, Z[k].v⟩ (zrow_set2 Z k hk f) (show OB w B Z[k].v Z[k].z.b from h.ent _ (List.getElem_mem hk)) (fun q hq => .inl hq) ⟨hok.len, hs, hok.st⟩
theorem fpD_same {p r : Nat} {Z : List Zm} {k : Nat} {z : Zn} (hk : k < Z.length) : ∀ q, fpD p r (Z.set k ⟨z, Z[k].v⟩) q → fpD p r Z q := fun q h => by
  rcases fpD_set hk h with h1 | h1
  · exact h1
  · exact .inr (.inr ⟨_, List.getElem_mem hk, h1⟩)
theorem DM.putSt2 {w : World} {B p r : Nat} {Z : List Zm} {D : Dv} {k s0 f : Nat} {b : List UInt8} {v : Value} (h : DM w B p r (Z.set k ⟨⟨s0, b, f⟩, v⟩) { D with A := D.A.set k ⟨s0, b, f⟩ }) (hk : k < Z.length) (s : Nat) (hs : s ≤ 2) :
    DM (w.setCell ⟨r, k * 3, none⟩ (.int .i64 (s : Nat))) B p r (Z.set k ⟨⟨s, b, f⟩, v⟩) { D with A := D.A.set k ⟨s, b, f⟩ } := by
  have h1 := h.putSt k (by simpa using hk) s hs
  simp only [List.getElem_set_self, List.set_set] at h1
  exact h1
theorem DM.znS {w : World} {B p r : Nat} {Z : List Zm} {D : Dv} {k : Nat} {x : Zm} (h : DM w B p r (Z.set k x) D) (hk : k < Z.length) :
    w.cell? ⟨r, k * 3, none⟩ = some (.int .i64 (x.z.st : Nat)) ∧ w.cell? ⟨r, k * 3 + 1, none⟩ = some x.v ∧ w.cell? ⟨r, k * 3 + 2, none⟩ = some (.int .i64 (x.z.fl : Nat)) := by
  have hk2 : k < (Z.set k x).length := by simpa using hk
  obtain ⟨x0, x1, x2⟩ := zrow_at (Z.set k x) k hk2
  rw [List.getElem_set_self] at x0 x1 x2
  have hl := h.len
  rw [List.length_set] at hl
  refine ⟨?_, ?_, ?_⟩
  · rw [World.ownsRow.cellAt h.row _ (by omega)]; exact x0
  · rw [World.ownsRow.cellAt h.row _ (by omega)]; exact x1
  · rw [World.ownsRow.cellAt h.row _ (by omega)]; exact x2
theorem fpD_v {p r : Nat} {Z : List Zm} {k : Nat} {x y : Zm} (hv : x.v = y.v) {q : Nat} (h : fpD p r (Z.set k x) q) : fpD p r (Z.set k y) q := by
  rcases h with h | h | ⟨u, hu, hq⟩
  · exact .inl h
  · exact .inr (.inl h)
  · obtain ⟨i, hi, rfl⟩ := List.getElem_of_mem hu
    have hi2 : i < (Z.set k y).length := by simpa using hi
    refine .inr (.inr ⟨(Z.set k y)[i], List.getElem_mem hi2, ?_⟩)
    rw [List.getElem_set] at hq ⊢
    by_cases e : k = i
    · rw [if_pos e] at hq ⊢; rw [← hv]; exact hq
    · rw [if_neg e] at hq ⊢; exact hq
def AppOut (w : World) (B p r : Nat) (Z : List Zm) (D' : Dv) (w' : World) : Prop :=
  (∃ Z', DM w' B p r Z' D' ∧ ∀ k, fpD p r Z' k → fpD p r Z k ∨ w.heap.size ≤ k) ∧ Chg (fpD p r Z) w w'
theorem AppOut.same {w w' : World} {B p r : Nat} {Z : List Zm} {D : Dv} (h : DM w B p r Z D) (hb : Below w.heap.size w w') : AppOut w B p r Z D w' := ⟨⟨Z, h.below hb, fun k h => .inl h⟩, Chg.of_below hb⟩
end Go.Proofs.Ytcgjkgcafkcgoaa
