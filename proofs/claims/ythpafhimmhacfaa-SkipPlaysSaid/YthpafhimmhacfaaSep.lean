/- What a call may turn: sets of blocks; make and copy on byte rows; a store into a byte row. -/
import Derived.Test.YthpafhimmhacfaaBase
import Derived.Laws.CopyRow
namespace Go.Proofs.Ythpafhimmhacfaa
open Go.RowKit
set_option linter.unusedVariables false

/-- of what was there nothing has turned but the blocks F -/
structure Chg (F : Nat → Prop) (w w' : World) : Prop where
  os : w'.os = w.os
  tape : w'.tape = w.tape
  output : w'.output = w.output
  size : w.heap.size ≤ w'.heap.size
  block : ∀ k, k < w.heap.size → ¬ F k → w'.heap[k]? = w.heap[k]?

theorem Chg.refl (F : Nat → Prop) (w : World) : Chg F w w := ⟨rfl, rfl, rfl, Nat.le_refl _, fun _ _ _ => rfl⟩
theorem Chg.mono {F G : Nat → Prop} {w w' : World} (h : Chg F w w') (hs : ∀ k, F k → G k) : Chg G w w' :=
  ⟨h.os, h.tape, h.output, h.size, fun k hk hn => h.block k hk fun hf => hn (hs k hf)⟩
theorem Chg.trans2 {F G : Nat → Prop} {a b c : World} (h : Chg F a b) (k : Chg G b c) (hs : ∀ i, i < a.heap.size → G i → F i) : Chg F a c :=
  ⟨k.os.trans h.os, k.tape.trans h.tape, k.output.trans h.output, Nat.le_trans h.size k.size, fun i hi hn => (k.block i (Nat.lt_of_lt_of_le hi h.size) (fun hg => hn (hs i hi hg))).trans (h.block i hi hn)⟩
theorem Chg.trans {F : Nat → Prop} {a b c : World} (h : Chg F a b) (k : Chg F b c) : Chg F a c := h.trans2 k fun _ _ h => h
theorem Chg.of_below {F : Nat → Prop} {w w' : World} (h : Below w.heap.size w w') : Chg F w w' := ⟨h.os, h.tape, h.output, h.size, fun k hk _ => h.block k hk⟩
theorem Chg.below {F : Nat → Prop} {B : Nat} {w w' : World} (h : Chg F w w') (hF : ∀ k, F k → B ≤ k) (hB : B ≤ w.heap.size) : Below B w w' :=
  ⟨h.os, h.tape, h.output, h.size, fun k hk => h.block k (by omega) fun hf => by have := hF k hf; omega⟩
theorem Chg.of_grown {row : Option Nat} {w w' : World} (h : w.grownBy w' row) : Chg (fun k => row = some k) w w' :=
  ⟨h.os, h.tape, h.output, h.size, fun k hk hn => h.block k hk fun e => hn e.symm⟩
theorem Chg.set (w : World) (p o : Nat) (v : Value) : Chg (fun k => k = p) w (w.setCell ⟨p, o, none⟩ v) :=
  ⟨rfl, rfl, rfl, by simp [World.setCell], fun k _ hn => Below.heap_setCell _ _ _ _ hn⟩
theorem Chg.of_app {w w' : World} {v v' : Value} (h : App w w' v v') : Chg (fun k => v.ownBlock = some k) w w' := Chg.of_grown h.grown
theorem Chg.alloc {F : Nat → Prop} {w w' : World} (h : Chg F w w') (o : Obj) : Chg F w (w'.alloc o) := h.trans (Chg.of_below ((Below.refl _ _).alloc (Nat.le_refl _) o))
theorem Chg.below2 {F : Nat → Prop} {a w w' : World} {B : Nat} (hb : Below B a w) (h : Chg F w w') (hF : ∀ k, F k → B ≤ k) (hB : B ≤ w.heap.size) : Below B a w' := hb.trans (h.below hF hB)

theorem blk_chg {F : Nat → Prop} {w w' : World} {p : Nat} {o : Obj} (h : w.heap[p]? = some o) (hc : Chg F w w') (hn : ¬ F p) : w'.heap[p]? = some o := by
  rw [hc.block p (Array.getElem?_eq_some_iff.1 h).1 hn]; exact h
theorem blk_lt {w : World} {p : Nat} {o : Obj} (h : w.heap[p]? = some o) : p < w.heap.size := (Array.getElem?_eq_some_iff.1 h).1
theorem RB.lt0 {w : World} {v : Value} {l : List UInt8} (h : RB w v l) (hl : 0 < l.length) : ∀ k, v.ownBlock = some k → k < w.heap.size := by
  obtain ⟨ao, c, rfl, hc, hr⟩ := h
  obtain ⟨b, off, rfl, hcell⟩ := hr hl
  intro k hk
  have hk : b = k := by simpa [Value.ownBlock] using hk
  subst hk
  exact World.block_lt_of_cell? w _ (hcell 0 hl)
theorem RB.chg {F : Nat → Prop} {w w' : World} {v : Value} {l : List UInt8} (h : RB w v l) (hc : Chg F w w') (hd : 0 < l.length → ∀ k, v.ownBlock = some k → ¬ F k) : RB w' v l := by
  rcases Nat.eq_zero_or_pos l.length with h0 | h0
  · obtain ⟨ao, c, hv, hcc, _⟩ := h
    exact ⟨ao, c, hv, hcc, fun h => by omega⟩
  · exact h.same fun b off hb _ ⟨o, n, c, hv⟩ => hc.block b hb (hd h0 b (by rw [hv]; rfl))
theorem OB.chg {F : Nat → Prop} {w w' : World} {B : Nat} {v : Value} {l : List UInt8} (h : OB w B v l) (hc : Chg F w w') (hd : ∀ k, v.ownBlock = some k → ¬ F k) : OB w' B v l :=
  h.same fun k hk => hc.block k (h.lt hk).2 (hd k hk)
theorem OB.len {w : World} {B : Nat} {a : Option Addr} {n c : Nat} {l : List UInt8} (h : OB w B (.slice a n c) l) : n = l.length := h.reads.len
theorem OB.capm {w : World} {B : Nat} {a : Option Addr} {n c : Nat} {l : List UInt8} (h : OB w B (.slice a n c) l) : c ≤ maxLen := by
  rcases h.2 with ⟨h1, _⟩ | ⟨g, cap, cur, hv, _, _, _, hm, _⟩
  · simp only [Value.slice.injEq] at h1; omega
  · simp only [Value.slice.injEq] at hv; omega

/-- where an append has laid the new value -/
def Lies (w : World) (v v' : Value) : Prop := v'.ownBlock = v.ownBlock ∨ ∃ g, v'.ownBlock = some g ∧ w.heap.size ≤ g
theorem Lies.refl (w : World) (v : Value) : Lies w v v := .inl rfl
theorem Lies.trans {w w' : World} {v v' v'' : Value} (h : Lies w v v') (k : Lies w' v' v'') (hz : w.heap.size ≤ w'.heap.size) : Lies w v v'' := by
  rcases k with e | ⟨g, e, hg⟩
  · rcases h with e2 | ⟨g, e2, hg⟩
    · exact .inl (e.trans e2)
    · exact .inr ⟨g, e.trans e2, hg⟩
  · exact .inr ⟨g, e, by omega⟩
theorem Lies.off {w : World} {v v' : Value} {p : Nat} (h : Lies w v v') (hp : p < w.heap.size) (hn : v.ownBlock ≠ some p) : v'.ownBlock ≠ some p := by
  rcases h with e | ⟨g, e, hg⟩
  · rw [e]; exact hn
  · rw [e]; intro e2; cases e2; omega
/-- what an append has laid is apart from whatever the old value was apart from -/
theorem Lies.apart {w : World} {v v' : Value} {F : Nat → Prop} (h : Lies w v v') (hF : ∀ k, F k → k < w.heap.size) (hn : ∀ k, v.ownBlock = some k → ¬ F k) : ∀ k, v'.ownBlock = some k → ¬ F k := by
  intro k hk hf
  rcases h with e | ⟨g, e, hg⟩
  · exact hn k (by rw [← e]; exact hk) hf
  · rw [e] at hk; cases hk; have := hF _ hf; omega

theorem bvs_replicate (n : Nat) : bvs (List.replicate n 0) = List.replicate n (.int .u8 0) := by simp [bvs, bv]

/-- what copy(d, m) leaves in d -/
def cpy (d m : List UInt8) : List UInt8 := m.take d.length ++ d.drop m.length
theorem cpy_length (d m : List UInt8) : (cpy d m).length = d.length := by simp [cpy]; omega
theorem cpy_same (d m : List UInt8) (h : m.length = d.length) : cpy d m = m := by
  unfold cpy; rw [List.take_of_length_le (by omega), List.drop_of_length_le (by omega), List.append_nil]

theorem OB.fz {w : World} {B g n c : Nat} {l : List UInt8} (h : OB w B (.slice (some ⟨g, 0, none⟩) n c) l) (j : Nat) : w.frozen? ⟨g, j, none⟩ = false := by
  have hn := h.len
  subst hn
  exact World.ownsRow.frozenAt h j
theorem OB.cellN {w : World} {B g n c : Nat} {l : List UInt8} (h : OB w B (.slice (some ⟨g, 0, none⟩) n c) l) (j : Nat) (hj : j < l.length) : w.cell? ⟨g, j, none⟩ = some (.int .u8 ((l[j]).toNat : Int)) := by
  obtain ⟨g', cap', hv, _, _, _, hc⟩ := h.form (by omega)
  simp only [Value.slice.injEq, Option.some.injEq, Addr.mk.injEq] at hv
  obtain ⟨⟨rfl, _⟩, _⟩ := hv
  exact hc j hj
/-- a store into a byte row -/
theorem OB.set {w : World} {B g n c : Nat} {l : List UInt8} (h : OB w B (.slice (some ⟨g, 0, none⟩) n c) l) (j : Nat) (x : UInt8) :
    OB (w.setCell ⟨g, j, none⟩ (bv x)) B (.slice (some ⟨g, 0, none⟩) n c) (l.set j x) := by
  have hn := h.len
  subst hn
  have := (World.ownsRow.stored h j (bv x)).1
  unfold OB
  have e : bvs (l.set j x) = (bvs l).set j (bv x) := by simp [bvs]
  rw [e, List.length_set]
  exact this
end Go.Proofs.Ythpafhimmhacfaa
