/- Texts joined: Zn, Za, Zb, Zc, Zd, Ze, Zf, Zg, Zi, Zj, Zk, Zl. -/
import Derived.Test.YtmhklmecpbdljaaDoorYRow
import Derived.Test.YtmhklmecpbdljaaDoorYSep
import Derived.Test.YtmhklmecpbdljaaDoorYRd
import Derived.Deep.QuietTactic
import Derived.BigQuiet
import Derived.Deep.RegionLaw
import Derived.Laws.OwnMore
/- A device of zones: plainly, and in memory. -/

namespace Go.Proofs.YtmhklmecpbdljaaDoor
open Go.RowKit
set_option linter.unusedVariables false
set_option linter.unusedSimpArgs false

theorem heap_set_listz {w : World} {q : Nat} {l : List Value} {T : TypeId} (h : w.heap[q]? = some (.cells l.toArray T (0, 0))) (i : Nat) (v : Value) : (w.setCell ⟨q, i, none⟩ v).heap[q]? = some (.cells (l.set i v).toArray T (0, 0)) := by
  simp only [World.setCell, Array.getElem?_modify, if_true, h, Option.map_some]
  simp
structure Zn where
  st : Nat
  b : List UInt8
  fl : Nat
structure Dv where
  n : Nat
  size : Nat
  op : Nat
  A : List Zn
  left : Int
  done : Nat
  down : Bool
/-- a zone, and the slice that holds its bytes -/
structure Zm where
  z : Zn
  v : Value
structure ZnOk (size : Nat) (z : Zn) : Prop where
  len : z.b.length ≤ size
  fl : z.fl ≤ z.b.length
  st : z.st ≤ 2
structure DvOk (D : Dv) : Prop where
  n1 : 1 ≤ D.n
  n2 : D.n ≤ 64
  s1 : 16 ≤ D.size
  s2 : D.size ≤ 65536
  o1 : 1 ≤ D.op
  o2 : D.op ≤ D.n
  l1 : -1 ≤ D.left
  l2 : D.left ≤ 9223372036854775807
  dn : D.done ≤ 4611686018427387904
  zs : ∀ z ∈ D.A, ZnOk D.size z

def zrow (Z : List Zm) : List Value := Z.flatMap fun x => [.int .i64 (x.z.st : Nat), x.v, .int .i64 (x.z.fl : Nat)]
theorem zrow_cons (x : Zm) (L : List Zm) : zrow (x :: L) = .int .i64 (x.z.st : Nat) :: x.v :: .int .i64 (x.z.fl : Nat) :: zrow L := rfl
theorem zrow_len : ∀ l : List Zm, (zrow l).length = l.length * 3
  | [] => rfl
  | x :: l => by rw [zrow_cons, List.length_cons, List.length_cons, List.length_cons, List.length_cons, zrow_len l]; omega
theorem zrow_at : ∀ (l : List Zm) (k : Nat) (h : k < l.length), (zrow l)[k * 3]? = some (.int .i64 (l[k].z.st : Nat)) ∧ (zrow l)[k * 3 + 1]? = some l[k].v ∧ (zrow l)[k * 3 + 2]? = some (.int .i64 (l[k].z.fl : Nat))
  | x :: l, 0, _ => ⟨rfl, rfl, rfl⟩
  | x :: l, k + 1, h => by
    have ih := zrow_at l k (by simpa using h)
    rw [zrow_cons, show (k + 1) * 3 = k * 3 + 3 by omega]
    exact ih
theorem zrow_set0 : ∀ (l : List Zm) (k : Nat) (h : k < l.length) (s : Nat), (zrow l).set (k * 3) (.int .i64 (s : Nat)) = zrow (l.set k ⟨⟨s, l[k].z.b, l[k].z.fl⟩, l[k].v⟩)
  | x :: l, 0, _, s => rfl
  | x :: l, k + 1, h, s => by
    have ih := zrow_set0 l k (by simpa using h) s
    rw [List.set_cons_succ, zrow_cons, zrow_cons, show (k + 1) * 3 = k * 3 + 3 by omega]
    simp only [List.set_cons_succ, List.getElem_cons_succ, ih]
theorem zrow_set1 : ∀ (l : List Zm) (k : Nat) (h : k < l.length) (v : Value) (b : List UInt8), (zrow l).set (k * 3 + 1) v = zrow (l.set k ⟨⟨l[k].z.st, b, l[k].z.fl⟩, v⟩)
  | x :: l, 0, _, v, b => rfl
  | x :: l, k + 1, h, v, b => by
    have ih := zrow_set1 l k (by simpa using h) v b
    rw [List.set_cons_succ, zrow_cons, zrow_cons, show (k + 1) * 3 + 1 = k * 3 + 1 + 3 by omega]
    simp only [List.set_cons_succ, List.getElem_cons_succ, ih]
theorem zrow_set2 : ∀ (l : List Zm) (k : Nat) (h : k < l.length) (f : Nat), (zrow l).set (k * 3 + 2) (.int .i64 (f : Nat)) = zrow (l.set k ⟨⟨l[k].z.st, l[k].z.b, f⟩, l[k].v⟩)
  | x :: l, 0, _, f => rfl
  | x :: l, k + 1, h, f => by
    have ih := zrow_set2 l k (by simpa using h) f
    rw [List.set_cons_succ, zrow_cons, zrow_cons, show (k + 1) * 3 + 2 = k * 3 + 2 + 3 by omega]
    simp only [List.set_cons_succ, List.getElem_cons_succ, ih]

/-- the blocks of a device -/
def fpD (p r : Nat) (Z : List Zm) (k : Nat) : Prop := k = p ∨ k = r ∨ ∃ x ∈ Z, x.v.ownBlock = some k
def dvals (D : Dv) (r : Nat) : List Value := [.int .i64 (D.n : Nat), .int .i64 (D.size : Nat), .int .i64 (D.op : Nat), .slice (some ⟨r, 0, none⟩) D.n D.n, .int .i64 D.left, .int .i64 (D.done : Nat), .bool D.down]
/-- at block p lies a device, its areas in block r -/
structure DM (w : World) (B p r : Nat) (Z : List Zm) (D : Dv) : Prop where
  box : w.heap[p]? = some (.cells (dvals D r).toArray 89 (0, 0))
  row : w.ownsRow B 86 3 (.slice (some ⟨r, 0, none⟩) D.n D.n) D.n (zrow Z)
  ent : ∀ x ∈ Z, OB w B x.v x.z.b
  apart : ∀ i j (hi : i < Z.length) (hj : j < Z.length) k, Z[i].v.ownBlock = some k → Z[j].v.ownBlock = some k → i = j
  off : ∀ x ∈ Z, x.v.ownBlock ≠ some p ∧ x.v.ownBlock ≠ some r
  pr : p ≠ r
  low : B ≤ p
  abs : Z.map Zm.z = D.A
  ok : DvOk D

theorem DM.len {w : World} {B p r : Nat} {Z : List Zm} {D : Dv} (h : DM w B p r Z D) : Z.length = D.n := by
  have := h.row.1
  rw [zrow_len] at this; omega
theorem DM.lenA {w : World} {B p r : Nat} {Z : List Zm} {D : Dv} (h : DM w B p r Z D) : D.A.length = D.n := by
  rw [← h.abs, List.length_map, h.len]
theorem DM.at {w : World} {B p r : Nat} {Z : List Zm} {D : Dv} (h : DM w B p r Z D) (k : Nat) (hk : k < Z.length) : Z[k].z = D.A[k]'(by rw [h.lenA, ← h.len]; exact hk) := by
  simp only [← h.abs, List.getElem_map]
theorem DM.lt {w : World} {B p r : Nat} {Z : List Zm} {D : Dv} (h : DM w B p r Z D) : ∀ k, fpD p r Z k → k < w.heap.size := by
  rintro k (rfl | rfl | ⟨x, hx, hk⟩)
  · exact blk_lt h.box
  · exact (World.ownsRow.lt h.row k rfl).2
  · exact ((h.ent x hx).lt hk).2
theorem DM.ge {w : World} {B p r : Nat} {Z : List Zm} {D : Dv} (h : DM w B p r Z D) : ∀ k, fpD p r Z k → B ≤ k := by
  rintro k (rfl | rfl | ⟨x, hx, hk⟩)
  · exact h.low
  · exact (World.ownsRow.lt h.row k rfl).1
  · exact ((h.ent x hx).lt hk).1
theorem DM.chg {G : Nat → Prop} {w w' : World} {B p r : Nat} {Z : List Zm} {D : Dv} (h : DM w B p r Z D) (hc : Chg G w w') (hd : ∀ k, fpD p r Z k → ¬ G k) : DM w' B p r Z D :=
  ⟨blk_chg h.box hc (hd p (.inl rfl)), row_same h.row fun k hk => hc.block k (World.ownsRow.lt h.row k hk).2 (hd k (.inr (.inl (by simpa [Value.ownBlock] using hk.symm)))), fun x hx => (h.ent x hx).chg hc fun k hk => hd k (.inr (.inr ⟨x, hx, hk⟩)), h.apart, h.off, h.pr, h.low, h.abs, h.ok⟩
theorem DM.below {w w' : World} {B p r : Nat} {Z : List Zm} {D : Dv} (h : DM w B p r Z D) (hb : Below w.heap.size w w') : DM w' B p r Z D :=
  h.chg (G := fun _ => False) (Chg.of_below hb) fun _ _ h => h
/-- the cells of the device's own block -/
theorem DM.cells {w : World} {B p r : Nat} {Z : List Zm} {D : Dv} (h : DM w B p r Z D) :
    w.cell? ⟨p, 0, none⟩ = some (.int .i64 (D.n : Nat)) ∧ w.cell? ⟨p, 1, none⟩ = some (.int .i64 (D.size : Nat)) ∧ w.cell? ⟨p, 2, none⟩ = some (.int .i64 (D.op : Nat)) ∧ w.cell? ⟨p, 3, none⟩ = some (.slice (some ⟨r, 0, none⟩) D.n D.n) ∧
      w.cell? ⟨p, 4, none⟩ = some (.int .i64 D.left) ∧ w.cell? ⟨p, 5, none⟩ = some (.int .i64 (D.done : Nat)) ∧ w.cell? ⟨p, 6, none⟩ = some (.bool D.down) := by
  refine ⟨?_, ?_, ?_, ?_, ?_, ?_, ?_⟩ <;> (rw [cell_of_row _ _ _ _ _ _ h.box]; rfl)
theorem DM.frz {w : World} {B p r : Nat} {Z : List Zm} {D : Dv} (h : DM w B p r Z D) (j : Nat) : w.frozen? ⟨p, j, none⟩ = false := by simp [World.frozen?, h.box]
/-- the cells of zone k -/
theorem DM.zn {w : World} {B p r : Nat} {Z : List Zm} {D : Dv} (h : DM w B p r Z D) (k : Nat) (hk : k < Z.length) :
    ∃ a c, Z[k].v = .slice a Z[k].z.b.length c ∧ Z[k].z.b.length ≤ c ∧ w.cell? ⟨r, k * 3, none⟩ = some (.int .i64 (Z[k].z.st : Nat)) ∧ w.cell? ⟨r, k * 3 + 1, none⟩ = some (.slice a Z[k].z.b.length c) ∧ w.cell? ⟨r, k * 3 + 2, none⟩ = some (.int .i64 (Z[k].z.fl : Nat)) := by
  obtain ⟨a, c, hv, hc⟩ := (h.ent _ (List.getElem_mem hk)).reads.shape
  obtain ⟨x0, x1, x2⟩ := zrow_at Z k hk
  rw [hv] at x1
  have hl := h.len
  refine ⟨a, c, hv, hc, ?_, ?_, ?_⟩
  · rw [World.ownsRow.cellAt h.row _ (by omega)]; exact x0
  · rw [World.ownsRow.cellAt h.row _ (by omega)]; exact x1
  · rw [World.ownsRow.cellAt h.row _ (by omega)]; exact x2
theorem DM.zfz {w : World} {B p r : Nat} {Z : List Zm} {D : Dv} (h : DM w B p r Z D) (j : Nat) : w.frozen? ⟨r, j, none⟩ = false := World.ownsRow.frozenAt h.row j
theorem DM.c0 {w : World} {B p r : Nat} {Z : List Zm} {D : Dv} (h : DM w B p r Z D) : w.cell? ⟨p, 0, none⟩ = some (.int .i64 (D.n : Nat)) := h.cells.1
theorem DM.c1 {w : World} {B p r : Nat} {Z : List Zm} {D : Dv} (h : DM w B p r Z D) : w.cell? ⟨p, 1, none⟩ = some (.int .i64 (D.size : Nat)) := h.cells.2.1
theorem DM.c2 {w : World} {B p r : Nat} {Z : List Zm} {D : Dv} (h : DM w B p r Z D) : w.cell? ⟨p, 2, none⟩ = some (.int .i64 (D.op : Nat)) := h.cells.2.2.1
theorem DM.c3 {w : World} {B p r : Nat} {Z : List Zm} {D : Dv} (h : DM w B p r Z D) : w.cell? ⟨p, 3, none⟩ = some (.slice (some ⟨r, 0, none⟩) D.n D.n) := h.cells.2.2.2.1
theorem DM.c4 {w : World} {B p r : Nat} {Z : List Zm} {D : Dv} (h : DM w B p r Z D) : w.cell? ⟨p, 4, none⟩ = some (.int .i64 D.left) := h.cells.2.2.2.2.1
theorem DM.c5 {w : World} {B p r : Nat} {Z : List Zm} {D : Dv} (h : DM w B p r Z D) : w.cell? ⟨p, 5, none⟩ = some (.int .i64 (D.done : Nat)) := h.cells.2.2.2.2.2.1
theorem DM.c6 {w : World} {B p r : Nat} {Z : List Zm} {D : Dv} (h : DM w B p r Z D) : w.cell? ⟨p, 6, none⟩ = some (.bool D.down) := h.cells.2.2.2.2.2.2
theorem DM.z0 {w : World} {B p r : Nat} {Z : List Zm} {D : Dv} (h : DM w B p r Z D) (k : Nat) (hk : k < Z.length) : w.cell? ⟨r, k * 3, none⟩ = some (.int .i64 (Z[k].z.st : Nat)) := by
  rw [World.ownsRow.cellAt h.row _ (by have := h.len; omega)]; exact (zrow_at Z k hk).1
theorem DM.z1 {w : World} {B p r : Nat} {Z : List Zm} {D : Dv} (h : DM w B p r Z D) (k : Nat) (hk : k < Z.length) : w.cell? ⟨r, k * 3 + 1, none⟩ = some (Z[k].v) := by
  rw [World.ownsRow.cellAt h.row _ (by have := h.len; omega)]; exact (zrow_at Z k hk).2.1
theorem DM.z2 {w : World} {B p r : Nat} {Z : List Zm} {D : Dv} (h : DM w B p r Z D) (k : Nat) (hk : k < Z.length) : w.cell? ⟨r, k * 3 + 2, none⟩ = some (.int .i64 (Z[k].z.fl : Nat)) := by
  rw [World.ownsRow.cellAt h.row _ (by have := h.len; omega)]; exact (zrow_at Z k hk).2.2
theorem DM.v2 {w : World} {B p r : Nat} {Z : List Zm} {D : Dv} (h : DM w B p r Z D) (k : Nat) (hk : k < Z.length) : ∃ a c, Z[k].v = .slice a Z[k].z.b.length c ∧ Z[k].z.b.length ≤ c := by
  obtain ⟨a, c, hv, hc⟩ := (h.ent _ (List.getElem_mem hk)).reads.shape
  exact ⟨a, c, hv, hc⟩
theorem DM.zok {w : World} {B p r : Nat} {Z : List Zm} {D : Dv} (h : DM w B p r Z D) (k : Nat) (hk : k < Z.length) : ZnOk D.size Z[k].z :=
  h.ok.zs _ (by rw [← h.abs]; exact List.mem_map.2 ⟨Z[k], List.getElem_mem hk, rfl⟩)
/-- a store into the device's own block -/
theorem DM.putB {w : World} {B p r : Nat} {Z : List Zm} {D D' : Dv} (h : DM w B p r Z D) (j : Nat) (u : Value) (hs : (dvals D r).set j u = dvals D' r) (hn : D'.n = D.n) (hA : D'.A = D.A) (ok : DvOk D') : DM (w.setCell ⟨p, j, none⟩ u) B p r Z D' := by
  have hc := Chg.set w p j u
  have hb := heap_set_listz h.box j u
  rw [hs] at hb
  exact ⟨hb, by rw [hn]; exact row_same h.row fun k hk => hc.block k (World.ownsRow.lt h.row k hk).2 (fun e => h.pr (by rw [← e]; simpa [Value.ownBlock] using hk.symm)), fun x hx => (h.ent x hx).chg hc fun k hk e => (h.off x hx).1 (by rw [hk, e]), h.apart, h.off, h.pr, h.low, by rw [hA]; exact h.abs, ok⟩
/-- zone k has turned -/
theorem DM.putW {w w' : World} {B p r : Nat} {Z : List Zm} {D : Dv} (h : DM w B p r Z D) (k : Nat) (hk : k < Z.length) (y : Zm) (hr : w'.ownsRow B 86 3 (.slice (some ⟨r, 0, none⟩) D.n D.n) D.n (zrow (Z.set k y))) (hc : Chg (fun q => q = r) w w') (hOB : OB w B y.v y.z.b)
    (hf : ∀ q, y.v.ownBlock = some q → Z[k].v.ownBlock = some q ∨ ¬ fpD p r Z q) (ok : ZnOk D.size y.z) : DM w' B p r (Z.set k y) { D with A := D.A.set k y.z } := by
  have hm : ∀ x ∈ Z.set k y, x = y ∨ x ∈ Z := fun x hx => by
    rcases List.mem_or_eq_of_mem_set hx with h | h
    · exact .inr h
    · exact .inl h
  have hyp : y.v.ownBlock ≠ some p ∧ y.v.ownBlock ≠ some r := by
    refine ⟨fun e => ?_, fun e => ?_⟩
    · rcases hf p e with h1 | h1
      · exact (h.off _ (List.getElem_mem hk)).1 h1
      · exact h1 (.inl rfl)
    · rcases hf r e with h1 | h1
      · exact (h.off _ (List.getElem_mem hk)).2 h1
      · exact h1 (.inr (.inl rfl))
  refine ⟨blk_chg h.box hc h.pr, hr, ?_, ?_, ?_, h.pr, h.low, ?_, ?_⟩
  · intro x hx
    rcases hm x hx with rfl | h1
    · exact hOB.chg hc fun q hq e => hyp.2 (by rw [hq, e])
    · exact (h.ent x h1).chg hc fun q hq e => (h.off x h1).2 (by rw [hq, e])
  · intro i j' hi hj q hqi hqj
    rw [List.length_set] at hi hj
    rw [List.getElem_set] at hqi hqj
    by_cases e1 : k = i <;> by_cases e2 : k = j'
    · omega
    · rw [if_pos e1] at hqi; rw [if_neg e2] at hqj
      rcases hf q hqi with h1 | h1
      · subst e1; exact h.apart k j' hk hj q h1 hqj
      · exact (h1 (.inr (.inr ⟨_, List.getElem_mem hj, hqj⟩))).elim
    · rw [if_neg e1] at hqi; rw [if_pos e2] at hqj
      rcases hf q hqj with h1 | h1
      · subst e2; exact h.apart i k hi hk q hqi h1
      · exact (h1 (.inr (.inr ⟨_, List.getElem_mem hi, hqi⟩))).elim
    · rw [if_neg e1] at hqi; rw [if_neg e2] at hqj
      exact h.apart i j' hi hj q hqi hqj
  · intro x hx
    rcases hm x hx with rfl | h1
    · exact hyp
    · exact h.off x h1
  · rw [← h.abs, List.map_set]
  · obtain ⟨a1, a2, a3, a4, a5, a6, a7, a8, a9, a10⟩ := h.ok
    exact ⟨a1, a2, a3, a4, a5, a6, a7, a8, a9, fun z hz => by
      rcases List.mem_or_eq_of_mem_set hz with h | rfl
      · exact a10 z h
      · exact ok⟩
/-- a store into a zone -/
theorem DM.putZ {w : World} {B p r : Nat} {Z : List Zm} {D : Dv} (h : DM w B p r Z D) (k : Nat) (hk : k < Z.length) (j : Nat) (u : Value) (y : Zm) (hs : (zrow Z).set j u = zrow (Z.set k y)) (hOB : OB w B y.v y.z.b)
    (hf : ∀ q, y.v.ownBlock = some q → Z[k].v.ownBlock = some q ∨ ¬ fpD p r Z q) (ok : ZnOk D.size y.z) : DM (w.setCell ⟨r, j, none⟩ u) B p r (Z.set k y) { D with A := D.A.set k y.z } := by
  have hr := (World.ownsRow.stored h.row j u).1
  rw [hs] at hr
  exact h.putW k hk y hr (Chg.set w r j u) hOB hf ok
theorem zrow_set3 (l : List Zm) (k : Nat) (h : k < l.length) : (((zrow l).set (k * 3) (.int .i64 0)).set (k * 3 + 1) (.slice none 0 0)).set (k * 3 + 2) (.int .i64 0) = zrow (l.set k ⟨⟨0, [], 0⟩, .slice none 0 0⟩) := by
  have e0 := zrow_set0 l k h 0
  rw [show (Value.int .i64 0) = .int .i64 ((0 : Nat) : Int) from rfl, e0]
  have e1 := zrow_set1 (l.set k ⟨⟨0, l[k].z.b, l[k].z.fl⟩, l[k].v⟩) k (by simpa using h) (.slice none 0 0) []
  rw [e1]
  have e2 := zrow_set2 ((l.set k ⟨⟨0, l[k].z.b, l[k].z.fl⟩, l[k].v⟩).set k ⟨⟨(l.set k ⟨⟨0, l[k].z.b, l[k].z.fl⟩, l[k].v⟩)[k]'(by simpa using h) |>.z.st, [], (l.set k ⟨⟨0, l[k].z.b, l[k].z.fl⟩, l[k].v⟩)[k]'(by simpa using h) |>.z.fl⟩, .slice none 0 0⟩) k (by simpa using h) 0
  rw [e2]
  simp
/-- a zone is emptied -/
theorem DM.putR {w : World} {B p r : Nat} {Z : List Zm} {D : Dv} (h : DM w B p r Z D) (k : Nat) (hk : k < Z.length) :
    DM (((w.setCell ⟨r, k * 3, none⟩ (.int .i64 0)).setCell ⟨r, k * 3 + 1, none⟩ (.slice none 0 0)).setCell ⟨r, k * 3 + 2, none⟩ (.int .i64 0)) B p r (Z.set k ⟨⟨0, [], 0⟩, .slice none 0 0⟩) { D with A := D.A.set k ⟨0, [], 0⟩ } := by
  have h1 := (World.ownsRow.stored h.row (k * 3) (.int .i64 0)).1
  have h2 := (World.ownsRow.stored h1 (k * 3 + 1) (.slice none 0 0)).1
  have h3 := (World.ownsRow.stored h2 (k * 3 + 2) (.int .i64 0)).1
  rw [zrow_set3 Z k hk] at h3
  exact h.putW k hk ⟨⟨0, [], 0⟩, .slice none 0 0⟩ h3 (((Chg.set w r _ _).trans (Chg.set _ r _ _)).trans (Chg.set _ r _ _)) (OB.nil _ _) (fun q hq => by simp [Value.ownBlock] at hq) ⟨Nat.zero_le _, Nat.le_refl _, by decide⟩
theorem fpD_set {p r : Nat} {Z : List Zm} {k : Nat} {y : Zm} {q : Nat} (hk : k < Z.length) (h : fpD p r (Z.set k y) q) : fpD p r Z q ∨ y.v.ownBlock = some q := by
  rcases h with h | h | ⟨x, hx, hq⟩
  · exact .inl (.inl h)
  · exact .inl (.inr (.inl h))
  · rcases List.mem_or_eq_of_mem_set hx with h | rfl
    · exact .inl (.inr (.inr ⟨x, h, hq⟩))
    · exact .inr hq
end Go.Proofs.YtmhklmecpbdljaaDoor
/- A device of zones: what its small functions answer. -/

namespace Go.Proofs.YtmhklmecpbdljaaDoor
open Go.RowKit
set_option linter.unusedVariables false
set_option linter.unusedSimpArgs false

def zcmd (D : Dv) : Dv × Int := if D.left = 0 then ({ D with down := true }, 74) else ({ D with left := if 0 < D.left then D.left - 1 else D.left, done := D.done + 1 }, 0)
theorem zcmd_off {D : Dv} (h : D.left = 0) : zcmd D = ({ D with down := true }, 74) := if_pos h
theorem zcmd_arm {D : Dv} (h : 0 < D.left) : zcmd D = ({ D with left := D.left - 1, done := D.done + 1 }, 0) := by
  unfold zcmd; rw [if_neg (by omega), if_pos h]
theorem zcmd_free {D : Dv} (h : D.left < 0) : zcmd D = ({ D with done := D.done + 1 }, 0) := by
  unfold zcmd; rw [if_neg (by omega), if_neg (by omega)]

set_option maxHeartbeats 2000000 in
theorem zcommand {w : World} {B p r : Nat} {Z : List Zm} {D : Dv} (h : DM w B p r Z D) (hd : D.done < 4611686018427387904) :
    Calls Tryd.prog 38 #[.pointer (some ⟨p, 0, none⟩)] w fun e w' => e = .returned (.int .i64 (zcmd D).2) ∧ DM w' B p r Z (zcmd D).1 ∧ Chg (fun k => k = p) w w' := by
  obtain ⟨_, _, _, _, c4, c5, c6⟩ := h.cells
  have f4 := h.frz 4
  have f5 := h.frz 5
  have f6 := h.frz 6
  obtain ⟨a1, a2, a3, a4, a5, a6, l1, l2, a9, a10⟩ := h.ok
  have H := Lib.hid h
  have A := Lib.hid (And.intro a1 (And.intro a2 (And.intro a3 (And.intro a4 (And.intro a5 (And.intro a6 a10))))))
  clear h a1 a2 a3 a4 a5 a6 a10
  have h3 : D.left = 0 ∨ 0 < D.left ∨ D.left < 0 := by omega
  rcases h3 with hz | hz | hz
  · rw [hz] at c4
    rw [zcmd_off hz]
    clear hz
    go_enter Tryd.func38, Tryd.ntmps38
    go_wp2
    go_ret
    obtain ⟨b1, b2, b3, b4, b5, b6, b7⟩ := A.out
    exact ⟨rfl, H.out.putB 6 _ rfl rfl rfl ⟨b1, b2, b3, b4, b5, b6, l1, l2, a9, b7⟩, Chg.set _ _ _ _⟩
  · rw [zcmd_arm hz]
    generalize hl : D.left = lf at *
    have HL := Lib.hid hl
    clear hl
    go_enter Tryd.func38, Tryd.ntmps38
    go_wp2
    go_ret
    obtain ⟨b1, b2, b3, b4, b5, b6, b7⟩ := A.out
    have h1 := H.out.putB (D' := { D with left := lf - 1 }) 4 (.int .i64 (lf - 1)) rfl rfl rfl ⟨b1, b2, b3, b4, b5, b6, by simp only; omega, by simp only; omega, a9, b7⟩
    have h2 := h1.putB (D' := { D with left := lf - 1, done := D.done + 1 }) 5 (.int .i64 ((D.done : Int) + 1)) rfl rfl rfl ⟨b1, b2, b3, b4, b5, b6, by simp only; omega, by simp only; omega, by simp only; omega, b7⟩
    exact ⟨rfl, h2, (Chg.set _ _ _ _).trans (Chg.set _ _ _ _)⟩
  · rw [zcmd_free hz]
    generalize hl : D.left = lf at *
    have HL := Lib.hid hl
    clear hl
    go_enter Tryd.func38, Tryd.ntmps38
    go_wp2
    go_ret
    obtain ⟨b1, b2, b3, b4, b5, b6, b7⟩ := A.out
    obtain rfl := HL.out
    exact ⟨rfl, H.out.putB 5 (.int .i64 ((D.done : Int) + 1)) rfl rfl rfl ⟨b1, b2, b3, b4, b5, b6, l1, l2, by simp only; omega, b7⟩, Chg.set _ _ _ _⟩

/-- what is wrong with a zone's number -/
def zfnd (D : Dv) (z : Int) : Int := if D.down = true then 74 else if z < 0 ∨ (D.n : Int) ≤ z then 70 else 0
theorem zfnd_down {D : Dv} {z : Int} (h : D.down = true) : zfnd D z = 74 := if_pos h
theorem zfnd_out {D : Dv} {z : Int} (h : D.down = false) (hz : z < 0 ∨ (D.n : Int) ≤ z) : zfnd D z = 70 := by
  unfold zfnd; rw [if_neg (by rw [h]; simp), if_pos hz]
theorem zfnd_in {D : Dv} {m : Nat} (h : D.down = false) (hz : m < D.n) : zfnd D (m : Int) = 0 := by
  unfold zfnd; rw [if_neg (by rw [h]; simp), if_neg (by omega)]

set_option maxHeartbeats 2000000 in
theorem zfind_bad {w : World} {B p r : Nat} {Z : List Zm} {D : Dv} (h : DM w B p r Z D) (z : Int) (hz : D.down = true ∨ z < 0 ∨ (D.n : Int) ≤ z) :
    Calls Tryd.prog 36 #[.pointer (some ⟨p, 0, none⟩), .int .i64 z] w fun e w' => e = .returned (.tuple #[.pointer none, .int .i64 (zfnd D z)]) ∧ w = w' := by
  obtain ⟨_, _, _, c3, _, _, c6⟩ := h.cells
  obtain ⟨a1, a2, a3, a4, a5, a6, l1, l2, a9, a10⟩ := h.ok
  clear h l1 l2 a9 a10 a3 a4 a5 a6
  cases hd : D.down with
  | true =>
    rw [zfnd_down hd]
    rw [hd] at c6
    clear hd hz c3
    go_enter Tryd.func36, Tryd.ntmps36
    go_wp2
    refine bodyPost_ret (v := .tuple #[.pointer none, .int .i64 74]) (by simp [results, Tryd.results36, go_sem]) rfl ?_
    exact ⟨rfl, rfl⟩
  | false =>
    have hz2 : z < 0 ∨ (0 ≤ z ∧ (D.n : Int) ≤ z) := by
      rcases hz with h | h | h
      · rw [hd] at h; cases h
      · exact .inl h
      · exact .inr ⟨by omega, h⟩
    rw [zfnd_out hd (by omega)]
    rw [hd] at c6
    clear hd hz
    generalize D.n = n at *
    rcases hz2 with h1 | ⟨h1, h2⟩
    all_goals
      go_enter Tryd.func36, Tryd.ntmps36
      go_wp2
      refine bodyPost_ret (v := .tuple #[.pointer none, .int .i64 70]) (by simp [results, Tryd.results36, go_sem]) rfl ?_
      exact ⟨rfl, rfl⟩
set_option maxHeartbeats 2000000 in
theorem zfind_in {w : World} {B p r : Nat} {Z : List Zm} {D : Dv} (h : DM w B p r Z D) (m : Nat) (hd : D.down = false) (hm : m < D.n) :
    Calls Tryd.prog 36 #[.pointer (some ⟨p, 0, none⟩), .int .i64 (m : Nat)] w fun e w' => e = .returned (.tuple #[.pointer (some ⟨r, m * 3, none⟩), .int .i64 0]) ∧ w = w' := by
  obtain ⟨_, _, _, c3, _, _, c6⟩ := h.cells
  obtain ⟨a1, a2, a3, a4, a5, a6, l1, l2, a9, a10⟩ := h.ok
  clear h l1 l2 a9 a10 a3 a4 a5 a6
  rw [hd] at c6
  clear hd
  generalize D.n = n at *
  go_enter Tryd.func36, Tryd.ntmps36
  go_wp2
  refine bodyPost_ret (v := .tuple #[.pointer (some ⟨r, m * 3, none⟩), .int .i64 0]) (by simp [results, Tryd.results36, go_sem]) rfl ?_
  exact ⟨rfl, rfl⟩
def zhs (D : Dv) (z : Int) : Bool := decide (0 ≤ z ∧ z < (D.n : Int))
set_option maxHeartbeats 2000000 in
theorem zhas {w : World} {B p r : Nat} {Z : List Zm} {D : Dv} (h : DM w B p r Z D) (z : Int) :
    Calls Tryd.prog 45 #[.pointer (some ⟨p, 0, none⟩), .int .i64 z] w fun e w' => e = .returned (.bool (zhs D z)) ∧ w = w' := by
  obtain ⟨_, _, _, c3, _, _, c6⟩ := h.cells
  obtain ⟨a1, a2, a3, a4, a5, a6, l1, l2, a9, a10⟩ := h.ok
  clear h l1 l2 a9 a10 a3 a4 a5 a6 c6
  unfold zhs
  generalize D.n = n at *
  have h3 : z < 0 ∨ (0 ≤ z ∧ (n : Int) ≤ z) ∨ (0 ≤ z ∧ z < (n : Int)) := by omega
  rcases h3 with h1 | ⟨h1, h2⟩ | ⟨h1, h2⟩
  · rw [decide_eq_false (p := 0 ≤ z ∧ z < (n : Int)) (by omega)]
    go_enter Tryd.func45, Tryd.ntmps45
    go_wp2
    go_ret
    exact ⟨rfl, rfl⟩
  · rw [decide_eq_false (p := 0 ≤ z ∧ z < (n : Int)) (by omega)]
    go_enter Tryd.func45, Tryd.ntmps45
    go_wp2
    go_ret
    refine ⟨?_, rfl⟩
    show Ending.returned (.bool (decide (z < (n : Int)))) = _
    rw [decide_eq_false (by omega)]
  · rw [decide_eq_true (p := 0 ≤ z ∧ z < (n : Int)) (by omega)]
    go_enter Tryd.func45, Tryd.ntmps45
    go_wp2
    go_ret
    exact ⟨rfl, rfl⟩
/-- a zone's state, pointer, flushed; by its number -/
def zst (D : Dv) (z : Int) : Int := if h : 0 ≤ z ∧ z.toNat < D.A.length then ((D.A[z.toNat]'h.2).st : Int) else -1
def zpt (D : Dv) (z : Int) : Int := if h : 0 ≤ z ∧ z.toNat < D.A.length then ((D.A[z.toNat]'h.2).b.length : Int) else 0
def zfl (D : Dv) (z : Int) : Int := if h : 0 ≤ z ∧ z.toNat < D.A.length then ((D.A[z.toNat]'h.2).fl : Int) else 0
set_option maxHeartbeats 2000000 in
theorem zstate {w : World} {B p r : Nat} {Z : List Zm} {D : Dv} (h : DM w B p r Z D) (z : Int) :
    Calls Tryd.prog 56 #[.pointer (some ⟨p, 0, none⟩), .int .i64 z] w fun e w' => e = .returned (.int .i64 (zst D z)) ∧ w = w' := by
  have hlA := h.lenA
  have hl := h.len
  have Hhas := Lib.hid (zhas h z)
  obtain ⟨_, _, _, c3, _, _, _⟩ := h.cells
  obtain ⟨a1, a2, a3, a4, a5, a6, l1, l2, a9, a10⟩ := h.ok
  clear l1 l2 a9 a5 a6
  by_cases hz : 0 ≤ z ∧ z < (D.n : Int)
  · obtain ⟨m, rfl⟩ := Int.eq_ofNat_of_zero_le hz.1
    have hm : m < Z.length := by omega
    obtain ⟨a, c, hv, hc, d0, d1, d2⟩ := h.zn m hm
    have e : zst D (m : Nat) = (Z[m].z.st : Nat) := by unfold zst; rw [dif_pos ⟨by omega, by simp; omega⟩, h.at m hm]; rfl
    rw [e]
    have eh : zhs D (m : Nat) = true := decide_eq_true hz
    rw [eh] at Hhas
    have hok := (a10 _ (by rw [← h.abs]; exact List.mem_map.2 ⟨Z[m], List.getElem_mem hm, rfl⟩) : ZnOk D.size Z[m].z)
    obtain ⟨o1, o2, o3⟩ := hok
    have hmn : m < D.n := by omega
    clear e eh h hv a10 hlA hl hz
    generalize Z[m].z.st = s at *
    generalize Z[m].z.b.length = bl at *
    generalize Z[m].z.fl = fl at *
    clear hm
    generalize D.n = n at *
    go_enter Tryd.func56, Tryd.ntmps56
    go_wp2_with fail; (with_reducible refine (Hhas.out).mono ?_); rintro e w ⟨rfl, rfl⟩
    go_wp2
    go_ret
    exact ⟨rfl, rfl⟩
  · have e : zst D z = -1 := dif_neg (fun h => hz ⟨h.1, by have := h.2; omega⟩)
    rw [e]
    have eh : zhs D z = false := decide_eq_false hz
    rw [eh] at Hhas
    clear e eh h a10 hlA hl hz
    generalize D.n = n at *
    go_enter Tryd.func56, Tryd.ntmps56
    go_wp2_with fail; (with_reducible refine (Hhas.out).mono ?_); rintro e w ⟨rfl, rfl⟩
    go_wp2
    go_ret
    exact ⟨rfl, rfl⟩
set_option maxHeartbeats 2000000 in
theorem zpointer {w : World} {B p r : Nat} {Z : List Zm} {D : Dv} (h : DM w B p r Z D) (z : Int) :
    Calls Tryd.prog 24 #[.pointer (some ⟨p, 0, none⟩), .int .i64 z] w fun e w' => e = .returned (.int .i64 (zpt D z)) ∧ w = w' := by
  have hlA := h.lenA
  have hl := h.len
  have Hhas := Lib.hid (zhas h z)
  obtain ⟨_, _, _, c3, _, _, _⟩ := h.cells
  obtain ⟨a1, a2, a3, a4, a5, a6, l1, l2, a9, a10⟩ := h.ok
  clear l1 l2 a9 a5 a6
  by_cases hz : 0 ≤ z ∧ z < (D.n : Int)
  · obtain ⟨m, rfl⟩ := Int.eq_ofNat_of_zero_le hz.1
    have hm : m < Z.length := by omega
    obtain ⟨a, c, hv, hc, d0, d1, d2⟩ := h.zn m hm
    have e : zpt D (m : Nat) = (Z[m].z.b.length : Nat) := by unfold zpt; rw [dif_pos ⟨by omega, by simp; omega⟩, h.at m hm]; rfl
    rw [e]
    have eh : zhs D (m : Nat) = true := decide_eq_true hz
    rw [eh] at Hhas
    have hok := (a10 _ (by rw [← h.abs]; exact List.mem_map.2 ⟨Z[m], List.getElem_mem hm, rfl⟩) : ZnOk D.size Z[m].z)
    obtain ⟨o1, o2, o3⟩ := hok
    have hmn : m < D.n := by omega
    clear e eh h hv a10 hlA hl hz
    generalize Z[m].z.st = s at *
    generalize Z[m].z.b.length = bl at *
    generalize Z[m].z.fl = fl at *
    clear hm
    generalize D.n = n at *
    go_enter Tryd.func24, Tryd.ntmps24
    go_wp2_with fail; (with_reducible refine (Hhas.out).mono ?_); rintro e w ⟨rfl, rfl⟩
    go_wp2
    go_ret
    exact ⟨rfl, rfl⟩
  · have e : zpt D z = 0 := dif_neg (fun h => hz ⟨h.1, by have := h.2; omega⟩)
    rw [e]
    have eh : zhs D z = false := decide_eq_false hz
    rw [eh] at Hhas
    clear e eh h a10 hlA hl hz
    generalize D.n = n at *
    go_enter Tryd.func24, Tryd.ntmps24
    go_wp2_with fail; (with_reducible refine (Hhas.out).mono ?_); rintro e w ⟨rfl, rfl⟩
    go_wp2
    go_ret
    exact ⟨rfl, rfl⟩
def zarmd (D : Dv) (n : Int) : Dv := { D with left := if n < -1 then -1 else n }
end Go.Proofs.YtmhklmecpbdljaaDoor
/- A device of zones: how many are open; reading. -/

namespace Go.Proofs.YtmhklmecpbdljaaDoor
open Go.RowKit
set_option linter.unusedVariables false
set_option linter.unusedSimpArgs false

def zopn (A : List Zn) : Nat := A.countP fun z => z.st == 1
theorem zopn_succ (A : List Zn) (n : Nat) (h : n < A.length) : zopn (A.take (n + 1)) = zopn (A.take n) + if A[n].st = 1 then 1 else 0 := by
  unfold zopn
  rw [List.take_succ_eq_append_getElem h, List.countP_append, List.countP_singleton]
  simp only [beq_iff_eq]
theorem zopn_le (A : List Zn) : zopn A ≤ A.length := List.countP_le_length
set_option maxRecDepth 100000 in
set_option maxHeartbeats 2000000 in
theorem zopened {w : World} {B p r : Nat} {Z : List Zm} {D : Dv} (h : DM w B p r Z D) :
    Calls Tryd.prog 37 #[.pointer (some ⟨p, 0, none⟩)] w fun e w' => e = .returned (.int .i64 (zopn D.A : Nat)) ∧ Below w.heap.size w w' := by
  obtain ⟨_, _, _, c3, _, _, _⟩ := h.cells
  have hlA := h.lenA
  have hl := h.len
  have n2 := h.ok.n2
  have H := Lib.hid h
  have hAt : ∀ k (hk : k < Z.length) (hk2 : k < D.A.length), D.A[k] = Z[k].z := fun k hk _ => (h.at k hk).symm
  have HAt := Lib.hid hAt
  have HlA := Lib.hid hlA
  have Hl := Lib.hid hl
  clear h hAt hlA hl
  go_enter Tryd.func37, Tryd.ntmps37
  go_wp2
  go_loopw [3, 11] (fun c i wr => ∃ n : Nat, n ≤ D.n ∧ i = .int .i64 n ∧ c = .int .i64 (zopn (D.A.take n) : Nat) ∧ Below w.heap.size w wr) (fun _ i _ => D.n - (intOf i).toNat)
  case atStart => exact ⟨0, Nat.zero_le _, rfl, rfl, Below.refl _ _⟩
  case round =>
    obtain ⟨n, hn, rfl, rfl, hbr⟩ := hrel
    by_cases hlt : n < D.n
    · have hlz : n < Z.length := by rw [Hl.out]; exact hlt
      obtain ⟨a, c, hv, hc, d0, d1, d2⟩ := (H.out.below hbr).zn n hlz
      have hs := zopn_succ D.A n (by rw [HlA.out]; exact hlt)
      rw [HAt.out n hlz (by rw [HlA.out]; exact hlt)] at hs
      have hle := zopn_le (D.A.take n)
      rw [List.length_take] at hle
      generalize zopn (D.A.take n) = z0 at *
      generalize Z[n].z.st = s at *
      generalize Z[n].z.b.length = bl at *
      generalize Z[n].z.fl = fl at *
      have hz64 : z0 ≤ 64 := by omega
      clear hv hle
      by_cases h1 : s = 1
      · rw [if_pos h1] at hs
        subst h1
        have Hs := Lib.hid hs
        clear hs
        go_wp2
        go_roundw
        case rel => exact ⟨n + 1, by omega, by go_num, by rw [Hs.out]; go_num, bnext hbr (by (repeat first | exact Below.refl _ _ | refine Below.drew ?_ | refine Below.alloc ?_ (by simp <;> omega) _ | refine Below.setCell ?_ (by simp <;> omega) _))⟩
        case measure => simp [intOf]; omega
      · rw [if_neg h1] at hs
        have Hs := Lib.hid hs
        clear hs
        go_wp2
        go_roundw
        case rel => exact ⟨n + 1, by omega, by go_num, by rw [Hs.out]; rfl, bnext hbr (by (repeat first | exact Below.refl _ _ | refine Below.drew ?_ | refine Below.alloc ?_ (by simp <;> omega) _ | refine Below.setCell ?_ (by simp <;> omega) _))⟩
        case measure => simp [intOf]; omega
    · have e : D.A.take n = D.A := List.take_of_length_le (by rw [HlA.out]; omega)
      rw [e]
      go_wp2
      go_ret
      exact ⟨rfl, hbr⟩

end Go.Proofs.YtmhklmecpbdljaaDoor
/- A device of zones: reading. -/

namespace Go.Proofs.YtmhklmecpbdljaaDoor
open Go.RowKit
set_option linter.unusedVariables false
set_option linter.unusedSimpArgs false

/-- what a reading of a zone's bytes tells -/
def zrdb (b : List UInt8) (at' n : Int) : List UInt8 × Int := if at' < 0 ∨ n < 0 ∨ (b.length : Int) < at' ∨ (b.length : Int) - at' < n then ([], 70) else ((b.drop at'.toNat).take n.toNat, 0)
def zread (D : Dv) (z at' n : Int) : List UInt8 × Int :=
  if zfnd D z ≠ 0 then ([], zfnd D z) else if h : z.toNat < D.A.length then zrdb D.A[z.toNat].b at' n else ([], 70)
theorem zread_bad {D : Dv} {z at' n : Int} (h : D.down = true ∨ z < 0 ∨ (D.n : Int) ≤ z) : zread D z at' n = ([], zfnd D z) := by
  unfold zread
  have : zfnd D z ≠ 0 := by
    unfold zfnd
    split
    · decide
    · rw [if_pos (by rcases h with h | h | h; contradiction; exact .inl h; exact .inr h)]; decide
  rw [if_pos this]
theorem zread_in {D : Dv} {m : Nat} (hd : D.down = false) (hm : m < D.n) (hA : m < D.A.length) (at' n : Int) : zread D m at' n = zrdb D.A[m].b at' n := by
  unfold zread
  rw [if_neg (by rw [zfnd_in hd hm]; simp), dif_pos (by simpa using hA)]
  rfl
theorem zcases (D : Dv) (z : Int) : (D.down = true ∨ z < 0 ∨ (D.n : Int) ≤ z) ∨ (D.down = false ∧ ∃ m : Nat, z = m ∧ m < D.n) := by
  cases h : D.down with
  | true => exact .inl (.inl rfl)
  | false =>
    by_cases hz : z < 0 ∨ (D.n : Int) ≤ z
    · exact .inl (.inr hz)
    · exact .inr ⟨rfl, z.toNat, by omega, by omega⟩
theorem rb_sub {w : World} {B g c : Nat} {l : List UInt8} (h : OB w B (.slice (some ⟨g, 0, none⟩) l.length c) l) (i n : Nat) (hi : i + n ≤ l.length) : RB w (.slice (some ⟨g, i, none⟩) n (c - i)) ((l.drop i).take n) := by
  have hr := h.reads
  have hc := hr.capl
  have h1 := rb_drop (c' := c - i) (n := i) hr (by omega) (by omega)
  have e : l.length - i = (l.drop i).length := by rw [List.length_drop]
  rw [e] at h1
  have h2 := rb_take (c' := c - i) (n := n) h1 (by rw [List.length_drop]; omega) (by omega)
  rw [Nat.zero_add] at h2
  exact h2
theorem DM.zn2 {w : World} {B p r : Nat} {Z : List Zm} {D : Dv} (h : DM w B p r Z D) (k : Nat) (hk : k < Z.length) :
    (Z[k].v = .slice none 0 0 ∧ Z[k].z.b = []) ∨ ∃ g c, Z[k].v = .slice (some ⟨g, 0, none⟩) Z[k].z.b.length c ∧ Z[k].z.b.length ≤ c ∧ c ≤ maxLen ∧ g ≠ p ∧ g ≠ r := by
  have ho := h.ent _ (List.getElem_mem hk)
  rcases ho.2 with ⟨h1, h2⟩ | ⟨g, cap, cur, hv, _, _, hc, hm, _⟩
  · exact .inl ⟨h1, List.eq_nil_of_length_eq_zero h2⟩
  · have hof := h.off _ (List.getElem_mem hk)
    rw [hv] at hof
    exact .inr ⟨g, cap, hv, hc, hm, fun e => hof.1 (by rw [e]; rfl), fun e => hof.2 (by rw [e]; rfl)⟩
set_option maxRecDepth 100000 in
set_option maxHeartbeats 4000000 in
theorem zreads {w : World} {B p r : Nat} {Z : List Zm} {D : Dv} (h : DM w B p r Z D) (z at' n : Int) :
    Calls Tryd.prog 40 #[.pointer (some ⟨p, 0, none⟩), .int .i64 z, .int .i64 at', .int .i64 n] w fun e w' => ∃ v, e = .returned (.tuple #[v, .int .i64 (zread D z at' n).2]) ∧ OB w' w.heap.size v (zread D z at' n).1 ∧ Below w.heap.size w w' := by
  rcases zcases D z with hz | ⟨hd, m, rfl, hm⟩
  · have Hf := Lib.hid (zfind_bad h z hz)
    rw [zread_bad hz]
    have he : zfnd D z = 74 ∨ zfnd D z = 70 := by
      unfold zfnd
      split
      · exact .inl rfl
      · rw [if_pos (by rcases hz with h | h | h; contradiction; exact .inl h; exact .inr h)]; exact .inr rfl
    clear hz h
    generalize zfnd D z = e0 at *
    rcases he with rfl | rfl
    all_goals
      go_enter Tryd.func40, Tryd.ntmps40
      go_wp2_with fail; (with_reducible refine (Hf.out).mono ?_); rintro e w ⟨rfl, rfl⟩
      go_wp2
    · refine bodyPost_ret (v := .tuple #[.slice none 0 0, .int .i64 74]) (by simp [results, Tryd.results40, go_sem]) rfl ?_
      exact ⟨_, rfl, OB.nil _ _, Below.refl _ _⟩
    · refine bodyPost_ret (v := .tuple #[.slice none 0 0, .int .i64 70]) (by simp [results, Tryd.results40, go_sem]) rfl ?_
      exact ⟨_, rfl, OB.nil _ _, Below.refl _ _⟩
  · have Hf := Lib.hid (zfind_in h m hd hm)
    have hlz : m < Z.length := by rw [h.len]; exact hm
    have hlA : m < D.A.length := by rw [h.lenA]; exact hm
    rw [zread_in hd hm hlA, ← h.at m hlz]
    have hok := h.ok.zs _ (by rw [← h.abs]; exact List.mem_map.2 ⟨Z[m], List.getElem_mem hlz, rfl⟩)
    have hs2 := h.ok.s2
    have hbl := hok.len
    obtain ⟨_, _, _, _, d0, d1, d2⟩ := h.zn m hlz
    have hz2 := h.zn2 m hlz
    have hO := h.ent _ (List.getElem_mem hlz)
    obtain ⟨x0, x1, x2⟩ := zrow_at Z m hlz
    have hcell : w.cell? ⟨r, m * 3 + 1, none⟩ = some Z[m].v := by
      rw [World.ownsRow.cellAt h.row _ (by have := h.len; omega)]; exact x1
    clear h hd hok d0 d1 d2 x0 x1 x2 hlA
    generalize Z[m].v = v at *
    generalize Z[m].z.b = b at *
    have hbl2 : b.length ≤ 65536 := by omega
    clear hlz hm hs2 hbl
    by_cases hbad : at' < 0 ∨ n < 0 ∨ (b.length : Int) < at' ∨ (b.length : Int) - at' < n
    · have e : zrdb b at' n = ([], 70) := if_pos hbad
      rw [e]
      have h4 : at' < 0 ∨ (0 ≤ at' ∧ n < 0) ∨ (0 ≤ at' ∧ 0 ≤ n ∧ (b.length : Int) < at') ∨ (0 ≤ at' ∧ 0 ≤ n ∧ at' ≤ (b.length : Int) ∧ (b.length : Int) - at' < n) := by omega
      have hv : ∃ a c, v = .slice a b.length c := by
        rcases hz2 with ⟨rfl, rfl⟩ | ⟨g, c, rfl, _⟩
        · exact ⟨none, 0, rfl⟩
        · exact ⟨_, _, rfl⟩
      obtain ⟨a, c, rfl⟩ := hv
      clear e hbad hz2 hO
      generalize b.length = bl at *
      rcases h4 with h1 | ⟨h1, h2⟩ | ⟨h1, h2, h3⟩ | ⟨h1, h2, h3, h4⟩
      all_goals
        go_enter Tryd.func40, Tryd.ntmps40
        go_wp2_with fail; (with_reducible refine (Hf.out).mono ?_); rintro e w ⟨rfl, rfl⟩
        go_wp2
        refine bodyPost_ret (v := .tuple #[.slice none 0 0, .int .i64 70]) (by simp [results, Tryd.results40, go_sem]) rfl ?_
        exact ⟨_, rfl, OB.nil _ _, Below.refl _ _⟩
    · have e : zrdb b at' n = ((b.drop at'.toNat).take n.toNat, 0) := if_neg hbad
      rw [e]
      obtain ⟨i, rfl⟩ := Int.eq_ofNat_of_zero_le (show 0 ≤ at' by omega)
      obtain ⟨k, rfl⟩ := Int.eq_ofNat_of_zero_le (show 0 ≤ n by omega)
      have hik : i + k ≤ b.length := by omega
      clear e hbad
      rcases hz2 with ⟨rfl, rfl⟩ | ⟨g, c, rfl, hc, hcm, _⟩
      · simp only [List.length_nil] at hik
        obtain rfl : i = 0 := by omega
        obtain rfl : k = 0 := by omega
        have Hc := Lib.hid (clone_any (RB.nil w none 0) (by simp))
        clear hO hik
        go_enter Tryd.func40, Tryd.ntmps40
        go_wp2_with fail; (with_reducible refine (Hf.out).mono ?_); rintro e w ⟨rfl, rfl⟩
        go_wp2_with fail; (with_reducible refine (Hc.out).mono ?_); rintro e w2 ⟨v2, rfl, ho2, hb2, _, a2, n2, c2, rfl, _⟩
        go_wp2
        refine bodyPost_ret (v := .tuple #[.slice a2 n2 c2, .int .i64 0]) (by simp [results, Tryd.results40, go_sem]) rfl ?_
        exact ⟨_, rfl, ho2, hb2⟩
      · unfold maxLen at hcm
        rcases Nat.lt_or_ge i c with hci | hci
        · have hrb := rb_sub hO i k hik
          have Hc := Lib.hid (clone_any hrb (by rw [List.length_take, List.length_drop]; omega))
          clear hrb hO
          generalize b.length = bl at *
          go_enter Tryd.func40, Tryd.ntmps40
          go_wp2_with fail; (with_reducible refine (Hf.out).mono ?_); rintro e w ⟨rfl, rfl⟩
          go_wp2_with fail; (with_reducible refine (Hc.out).mono ?_); rintro e w2 ⟨v2, rfl, ho2, hb2, _, a2, n2, c2, rfl, _⟩
          go_wp2
          refine bodyPost_ret (v := .tuple #[.slice a2 n2 c2, .int .i64 0]) (by simp [results, Tryd.results40, go_sem]) rfl ?_
          exact ⟨_, rfl, ho2, hb2⟩
        · obtain rfl : c = i := by omega
          obtain rfl : k = 0 := by omega
          have e0 : (List.take (Int.toNat ((0 : Nat) : Int)) (List.drop (Int.toNat ((c : Nat) : Int)) b)) = [] := rfl
          rw [e0]
          have Hc := Lib.hid (clone_any (RB.nil w (some ⟨g, 0, none⟩) 0) (by simp))
          clear hO e0
          generalize b.length = bl at *
          go_enter Tryd.func40, Tryd.ntmps40
          go_wp2_with fail; (with_reducible refine (Hf.out).mono ?_); rintro e w ⟨rfl, rfl⟩
          go_wp2_with fail; (with_reducible refine (Hc.out).mono ?_); rintro e w2 ⟨v2, rfl, ho2, hb2, _, a2, n2, c2, rfl, _⟩
          go_wp2
          refine bodyPost_ret (v := .tuple #[.slice a2 n2 c2, .int .i64 0]) (by simp [results, Tryd.results40, go_sem]) rfl ?_
          exact ⟨_, rfl, ho2, hb2⟩
end Go.Proofs.YtmhklmecpbdljaaDoor
/- A device of zones: Append. -/

namespace Go.Proofs.YtmhklmecpbdljaaDoor
open Go.RowKit
set_option linter.unusedVariables false
set_option linter.unusedSimpArgs false

def zappA (D : Dv) (k : Nat) (a : Zn) (m : List UInt8) : Dv × Int :=
  if a.st = 2 then (D, 71) else if a.st = 0 ∧ D.op ≤ zopn D.A then (D, 72) else if D.size < a.b.length + m.length then (D, 73)
  else zcmd { D with A := D.A.set k ⟨if a.b.length + m.length = D.size then 2 else 1, a.b ++ m, a.fl⟩ }
def zapp (D : Dv) (z : Int) (m : List UInt8) : Dv × Int :=
  if zfnd D z ≠ 0 then (D, zfnd D z) else if h : z.toNat < D.A.length then zappA D z.toNat D.A[z.toNat] m else (D, 70)
theorem zfnd_ne {D : Dv} {z : Int} (h : D.down = true ∨ z < 0 ∨ (D.n : Int) ≤ z) : zfnd D z ≠ 0 ∧ (zfnd D z = 74 ∨ zfnd D z = 70) := by
  unfold zfnd
  split
  · exact ⟨by decide, .inl rfl⟩
  · rw [if_pos (by rcases h with h | h | h; contradiction; exact .inl h; exact .inr h)]; exact ⟨by decide, .inr rfl⟩
theorem zapp_bad {D : Dv} {z : Int} {m : List UInt8} (h : D.down = true ∨ z < 0 ∨ (D.n : Int) ≤ z) : zapp D z m = (D, zfnd D z) := if_pos (zfnd_ne h).1
theorem zapp_in {D : Dv} {k : Nat} (hd : D.down = false) (hm : k < D.n) (hA : k < D.A.length) (m : List UInt8) : zapp D k m = zappA D k D.A[k] m := by
  unfold zapp
  rw [if_neg (by rw [zfnd_in hd hm]; simp), dif_pos (by simpa using hA)]
  rfl
theorem DM.appKeep {w w1 : World} {B p r : Nat} {Z : List Zm} {D : Dv} (h : DM w B p r Z D) (k : Nat) (hk : k < Z.length) {v1 : Value} (hold : OB w1 B Z[k].v Z[k].z.b) (ha : App w w1 Z[k].v v1) : DM w1 B p r Z D := by
  have hc := Chg.of_app ha
  have hof := h.off _ (List.getElem_mem hk)
  refine ⟨blk_chg h.box hc hof.1, row_same h.row fun q hq => hc.block q (World.ownsRow.lt h.row q hq).2 (fun e => hof.2 (by rw [e]; simpa [Value.ownBlock] using hq.symm)), ?_, h.apart, h.off, h.pr, h.low, h.abs, h.ok⟩
  intro x hx
  obtain ⟨i, hi, rfl⟩ := List.getElem_of_mem hx
  by_cases e : i = k
  · subst e; exact hold
  · exact (h.ent _ hx).chg hc fun q hq e2 => e (h.apart i k hi hk q hq e2)
/-- what an append made is stored -/
theorem DM.appPut {w w1 : World} {B p r : Nat} {Z : List Zm} {D : Dv} (h : DM w B p r Z D) (k : Nat) (hk : k < Z.length) {v1 : Value} {m : List UInt8} (ho : OB w1 B v1 (Z[k].z.b ++ m)) (hold : OB w1 B Z[k].v Z[k].z.b) (ha : App w w1 Z[k].v v1) (hlen : Z[k].z.b.length + m.length ≤ D.size) :
    DM (w1.setCell ⟨r, k * 3 + 1, none⟩ v1) B p r (Z.set k ⟨⟨Z[k].z.st, Z[k].z.b ++ m, Z[k].z.fl⟩, v1⟩) { D with A := D.A.set k ⟨Z[k].z.st, Z[k].z.b ++ m, Z[k].z.fl⟩ } ∧ Chg (fpD p r Z) w (w1.setCell ⟨r, k * 3 + 1, none⟩ v1) ∧
      ∀ q, fpD p r (Z.set k ⟨⟨Z[k].z.st, Z[k].z.b ++ m, Z[k].z.fl⟩, v1⟩) q → fpD p r Z q ∨ w.heap.size ≤ q := by
  have hD := h.appKeep k hk hold ha
  have hok := h.ok.zs _ (by rw [← h.abs]; exact List.mem_map.2 ⟨Z[k], List.getElem_mem hk, rfl⟩)
  have hv : ∀ q, v1.ownBlock = some q → Z[k].v.ownBlock = some q ∨ w.heap.size ≤ q := fun q hq => by
    rcases ha.lies with e | ⟨g, e, hg⟩
    · exact .inl (by rw [← e]; exact hq)
    · rw [e] at hq; cases hq; exact .inr hg
  refine ⟨hD.putZ k hk _ v1 ⟨⟨Z[k].z.st, Z[k].z.b ++ m, Z[k].z.fl⟩, v1⟩ (zrow_set1 Z k hk v1 _) ho (fun q hq => ?_) ⟨by simp only [List.length_append]; exact hlen, by simp only [List.length_append]; have := hok.fl; omega, hok.st⟩, ?_, ?_⟩
  · rcases hv q hq with h1 | h1
    · exact .inl h1
    · exact .inr fun hf => by have := h.lt q hf; omega
  · exact ((Chg.of_app ha).mono fun q hq => .inr (.inr ⟨_, List.getElem_mem hk, hq⟩)).trans ((Chg.set w1 r _ v1).mono fun q hq => .inr (.inl hq))
  · intro q hq
    rcases fpD_set hk hq with h1 | h1
    · exact .inl h1
    · rcases hv q h1 with h2 | h2
      · exact .inl (.inr (.inr ⟨_, List.getElem_mem hk, h2⟩))
      · exact .inr h2
/-- a zone's state is set -/
theorem DM.putSt {w : World} {B p r : Nat} {Z : List Zm} {D : Dv} (h : DM w B p r Z D) (k : Nat) (hk : k < Z.length) (s : Nat) (hs : s ≤ 2) :
    DM (w.setCell ⟨r, k * 3, none⟩ (.int .i64 (s : Nat))) B p r (Z.set k ⟨⟨s, Z[k].z.b, Z[k].z.fl⟩, Z[k].v⟩) { D with A := D.A.set k ⟨s, Z[k].z.b, Z[k].z.fl⟩ } := by
  have hok := h.ok.zs _ (by rw [← h.abs]; exact List.mem_map.2 ⟨Z[k], List.getElem_mem hk, rfl⟩)
  exact h.putZ k hk _ _ ⟨⟨s, Z[k].z.b, Z[k].z.fl⟩, Z[k].v⟩ (zrow_set0 Z k hk s) (show OB w B Z[k].v Z[k].z.b from h.ent _ (List.getElem_mem hk)) (fun q hq => .inl hq) ⟨hok.len, hok.fl, hs⟩
theorem DM.putFl {w : World} {B p r : Nat} {Z : List Zm} {D : Dv} (h : DM w B p r Z D) (k : Nat) (hk : k < Z.length) (f : Nat) (hs : f ≤ Z[k].z.b.length) :
    DM (w.setCell ⟨r, k * 3 + 2, none⟩ (.int .i64 (f : Nat))) B p r (Z.set k ⟨⟨Z[k].z.st, Z[k].z.b, f⟩, Z[k].v⟩) { D with A := D.A.set k ⟨Z[k].z.st, Z[k].z.b, f⟩ } := by
  have hok := h.ok.zs _ (by rw [← h.abs]; exact List.mem_map.2 ⟨Z[k], List.getElem_mem hk, rfl⟩)
  exact h.putZ k hk _ _ ⟨⟨Z[k].z.st, Z[k].z.b, f⟩, Z[k].v⟩ (zrow_set2 Z k hk f) (show OB w B Z[k].v Z[k].z.b from h.ent _ (List.getElem_mem hk)) (fun q hq => .inl hq) ⟨hok.len, hs, hok.st⟩
theorem fpD_same {p r : Nat} {Z : List Zm} {k : Nat} {z : Zn} (hk : k < Z.length) : ∀ q, fpD p r (Z.set k ⟨z, Z[k].v⟩) q → fpD p r Z q := fun q h => by
  rcases fpD_set hk h with h1 | h1
  · exact h1
  · exact .inr (.inr ⟨_, List.getElem_mem hk, h1⟩)
theorem DM.putSt2 {w : World} {B p r : Nat} {Z : List Zm} {D : Dv} {k s0 f : Nat} {b : List UInt8} {v : Value} (h : DM w B p r (Z.set k ⟨⟨s0, b, f⟩, v⟩) { D with A := D.A.set k ⟨s0, b, f⟩ }) (hk : k < Z.length) (s : Nat) (hs : s ≤ 2) :
    DM (w.setCell ⟨r, k * 3, none⟩ (.int .i64 (s : Nat))) B p r (Z.set k ⟨⟨s, b, f⟩, v⟩) { D with A := D.A.set k ⟨s, b, f⟩ } := by
  have h1 := h.putSt k (by simpa using hk) s hs
  simp only [List.getElem_set_self, List.set_set] at h1
  exact h1
theorem DM.znS {w : World} {B p r : Nat} {Z : List Zm} {D : Dv} {k : Nat} {x : Zm} (h : DM w B p r (Z.set k x) D) (hk : k < Z.length) :
    w.cell? ⟨r, k * 3, none⟩ = some (.int .i64 (x.z.st : Nat)) ∧ w.cell? ⟨r, k * 3 + 1, none⟩ = some x.v ∧ w.cell? ⟨r, k * 3 + 2, none⟩ = some (.int .i64 (x.z.fl : Nat)) := by
  have hk2 : k < (Z.set k x).length := by simpa using hk
  obtain ⟨x0, x1, x2⟩ := zrow_at (Z.set k x) k hk2
  rw [List.getElem_set_self] at x0 x1 x2
  have hl := h.len
  rw [List.length_set] at hl
  refine ⟨?_, ?_, ?_⟩
  · rw [World.ownsRow.cellAt h.row _ (by omega)]; exact x0
  · rw [World.ownsRow.cellAt h.row _ (by omega)]; exact x1
  · rw [World.ownsRow.cellAt h.row _ (by omega)]; exact x2
theorem fpD_v {p r : Nat} {Z : List Zm} {k : Nat} {x y : Zm} (hv : x.v = y.v) {q : Nat} (h : fpD p r (Z.set k x) q) : fpD p r (Z.set k y) q := by
  rcases h with h | h | ⟨u, hu, hq⟩
  · exact .inl h
  · exact .inr (.inl h)
  · obtain ⟨i, hi, rfl⟩ := List.getElem_of_mem hu
    have hi2 : i < (Z.set k y).length := by simpa using hi
    refine .inr (.inr ⟨(Z.set k y)[i], List.getElem_mem hi2, ?_⟩)
    rw [List.getElem_set] at hq ⊢
    by_cases e : k = i
    · rw [if_pos e] at hq ⊢; rw [← hv]; exact hq
    · rw [if_neg e] at hq ⊢; exact hq
def AppOut (w : World) (B p r : Nat) (Z : List Zm) (D' : Dv) (w' : World) : Prop :=
  (∃ Z', DM w' B p r Z' D' ∧ ∀ k, fpD p r Z' k → fpD p r Z k ∨ w.heap.size ≤ k) ∧ Chg (fpD p r Z) w w'
theorem AppOut.same {w w' : World} {B p r : Nat} {Z : List Zm} {D : Dv} (h : DM w B p r Z D) (hb : Below w.heap.size w w') : AppOut w B p r Z D w' := ⟨⟨Z, h.below hb, fun k h => .inl h⟩, Chg.of_below hb⟩
end Go.Proofs.YtmhklmecpbdljaaDoor
/- A device of zones: the walk of Append. -/

namespace Go.Proofs.YtmhklmecpbdljaaDoor
open Go.RowKit
set_option linter.unusedVariables false
set_option linter.unusedSimpArgs false

set_option maxRecDepth 100000 in
set_option maxHeartbeats 8000000 in
theorem zappend {w : World} {B p r : Nat} {Z : List Zm} {D : Dv} (h : DM w B p r Z D) (hdn : D.done < 4611686018427387904) (z : Int) {ao : Option Addr} {c : Nat} {m : List UInt8} (hr : RB w (.slice ao m.length c) m) (hml : m.length ≤ 1000000) :
    Calls Tryd.prog 14 #[.pointer (some ⟨p, 0, none⟩), .int .i64 z, .slice ao m.length c] w fun e w' => e = .returned (.int .i64 (zapp D z m).2) ∧ AppOut w B p r Z (zapp D z m).1 w' := by
  rcases zcases D z with hz | ⟨hd, k, rfl, hm⟩
  · have Hf := Lib.hid (zfind_bad h z hz)
    rw [zapp_bad hz]
    obtain ⟨_, he⟩ := zfnd_ne hz
    have H := Lib.hid h
    clear hz h hr
    generalize zfnd D z = e0 at *
    rcases he with rfl | rfl
    all_goals
      go_enter Tryd.func14, Tryd.ntmps14
      go_wp2_with fail; (with_reducible refine (Hf.out).mono ?_); rintro e w ⟨rfl, rfl⟩
      go_wp2
      go_ret
      exact ⟨rfl, AppOut.same H.out (Below.refl _ _)⟩
  · have Hf := Lib.hid (zfind_in h k hd hm)
    have hlz : k < Z.length := by rw [h.len]; exact hm
    have hlA : k < D.A.length := by rw [h.lenA]; exact hm
    rw [zapp_in hd hm hlA, ← h.at k hlz]
    have hok := h.ok.zs _ (by rw [← h.abs]; exact List.mem_map.2 ⟨Z[k], List.getElem_mem hlz, rfl⟩)
    obtain ⟨k1, k2, k3⟩ := hok
    have hs1 := h.ok.s1
    have hs2 := h.ok.s2
    have ho1 := h.ok.o1
    have hn2 := h.ok.n2
    have ho2 := h.ok.o2
    have hB := h.low
    have hps := blk_lt h.box
    have hbz : B ≤ w.heap.size := by omega
    have Hop := Lib.hid (fun W (hW : Below w.heap.size w W) => zopened (h.below hW))
    have hle := zopn_le D.A
    rw [h.lenA] at hle
    obtain ⟨av, cv, hv, hcv, d0, d1, d2⟩ := h.zn k hlz
    obtain ⟨_, c1, c2, _, _, _, _⟩ := h.cells
    have H := Lib.hid h
    have Hr := Lib.hid hr
    have Hv := Lib.hid hv
    clear h hr hv hd hlA
    unfold zappA
    by_cases hst2 : Z[k].z.st = 2
    · rw [if_pos hst2]
      rw [hst2] at d0
      clear hst2 k3 k1 k2
      go_enter Tryd.func14, Tryd.ntmps14
      go_wp2_with fail; (with_reducible refine (Hf.out).mono ?_); rintro e w ⟨rfl, rfl⟩
      go_wp2
      go_ret
      exact ⟨rfl, AppOut.same H.out (Below.refl _ _)⟩
    · rw [if_neg hst2]
      have hc6 : ∃ tb : Bool, tb = decide (Z[k].z.st = 0 ∧ D.op ≤ zopn D.A) := ⟨_, rfl⟩
      obtain ⟨tb, htb⟩ := hc6
      have Htb := Lib.hid htb
      generalize hres : (if Z[k].z.st = 0 ∧ D.op ≤ zopn D.A then (D, (72 : Int)) else if D.size < Z[k].z.b.length + m.length then (D, 73) else zcmd { D with A := D.A.set k ⟨if Z[k].z.b.length + m.length = D.size then 2 else 1, Z[k].z.b ++ m, Z[k].z.fl⟩ }) = res
      have Hres := Lib.hid hres
      clear hres
      have Hst := Lib.hid hst2
      have dd0 := cell_next d0
      have dd1 := cell_next d1
      have cc1 := cell_next c1
      have cc2 := cell_next c2
      go_enter Tryd.func14, Tryd.ntmps14
      go_wp2_with fail; (with_reducible refine (Hf.out).mono ?_); rintro e w ⟨rfl, rfl⟩
      have hs2f : (((Z[k].z.st : Nat) : Int) == 2) = false := by rw [beq_eq_false_iff_ne]; omega
      have Hb := Lib.hid k1
      clear htb c1 c2 d1 d2 k1 k2
      go_upto_region 6 with (fail)
      go_cut [25] from 26 to 40 (fun t wx => t = .bool tb ∧ Below w.heap.size w wx)
      case first =>
        have h01 : Z[k].z.st = 0 ∨ Z[k].z.st = 1 := by omega
        have Bq := bnext_grow (Below.refl w.heap.size w)
        rcases h01 with h0 | h0
        · rw [h0] at Htb dd0 d0
          have hzz : zopn D.A ≤ 64 := by omega
          clear h0 hs2f hst2 dd1 cc1
          generalize zopn D.A = zo at *
          generalize D.op = op at *
          by_cases hlo : op ≤ zo
          · obtain rfl : tb = true := by rw [Htb.out]; exact decide_eq_true ⟨rfl, hlo⟩
            refine wp_region_quiet_below (by kernel_rfl) (by kernel_rfl) ?_; (repeat (go_big_quiet_step ((go_at_call 37; (with_reducible refine Calls.regrown_of (Hop.out _ (Bq _ _))))))); refine wpQuiet_nil ?_; rintro _ ⟨pq, rfl⟩
            go_wp2
            go_meet
            exact ⟨rfl, Bq _ _⟩
          · obtain rfl : tb = false := by rw [Htb.out]; exact decide_eq_false (fun h => hlo h.2)
            refine wp_region_quiet_below (by kernel_rfl) (by kernel_rfl) ?_; (repeat (go_big_quiet_step ((go_at_call 37; (with_reducible refine Calls.regrown_of (Hop.out _ (Bq _ _))))))); refine wpQuiet_nil ?_; rintro _ ⟨pq, rfl⟩
            go_wp2
            go_meet
            exact ⟨rfl, Bq _ _⟩
        · rw [h0] at Htb dd0 d0
          obtain rfl : tb = false := by rw [Htb.out]; exact decide_eq_false (fun h => by have := h.1; omega)
          clear h0 hs2f hst2 dd1 cc1 cc2
          refine wp_region_quiet_below (by kernel_rfl) (by kernel_rfl) ?_; (repeat (go_big_quiet_step ((fail)))); refine wpQuiet_nil ?_; rintro _ ⟨pq, rfl⟩
          go_wp2
          go_meet
          exact ⟨rfl, Bq _ _⟩
      case rest =>
        obtain ⟨rfl, hb2⟩ := hcut
        have HB2 := Lib.hid hb2
        clear hb2 dd0 dd1 cc1 cc2 d0 hs2f Hop
        cases htb2 : tb with
        | true =>
          have e : (Z[k].z.st = 0 ∧ D.op ≤ zopn D.A) := by
            have := Htb.out
            rw [htb2] at this
            exact of_decide_eq_true this.symm
          have e3 : res = (D, 72) := by rw [← Hres.out, if_pos e]
          have E3 := Lib.hid e3
          clear e e3 Htb
          go_wp2
          go_ret
          rw [E3.out]
          exact ⟨rfl, AppOut.same H.out HB2.out⟩
        | false =>
          have e : ¬ (Z[k].z.st = 0 ∧ D.op ≤ zopn D.A) := by
            have := Htb.out
            rw [htb2] at this
            exact of_decide_eq_false this.symm
          have e3 := Hres.out
          rw [if_neg e] at e3
          have E3 := Lib.hid e3
          clear e e3 Htb
          subst htb2
          have hD2 := H.out.below HB2.out
          obtain ⟨_, c1, _, _, _, _, _⟩ := hD2.cells
          obtain ⟨av2, cv2, hv2, _, d0, d1, d2⟩ := hD2.zn k hlz
          have hsz : (D.size : Int) - (Z[k].z.b.length : Int) ≤ 65536 ∧ (0 : Int) ≤ (D.size : Int) - (Z[k].z.b.length : Int) := by have := Hb.out; omega
          obtain ⟨z1, z2⟩ := hsz
          have HD2 := Lib.hid hD2
          have hml2 : (m.length : Int) ≤ 1000000 := by omega
          have HV2 := Lib.hid hv2
          clear hD2 hv2 d0 d2
          go_upto_region 8 with (fail)
          by_cases hfull : D.size < Z[k].z.b.length + m.length
          · have e4 := E3.out
            rw [if_pos hfull] at e4
            have E4 := Lib.hid e4
            clear e4
            have hf2 : (D.size : Int) - (Z[k].z.b.length : Int) < (m.length : Int) := by omega
            go_region
            go_wp2
            go_ret
            rw [← E4.out]
            exact ⟨rfl, AppOut.same H.out HB2.out.drew⟩
          · have e4 := E3.out
            rw [if_neg hfull] at e4
            have E4 := Lib.hid e4
            clear e4
            have hf2 : (m.length : Int) ≤ (D.size : Int) - (Z[k].z.b.length : Int) := by omega
            go_region
            have hD3 := HD2.out.below (Below.refl _ _).drew
            have hr3 := (Hr.out.below HB2.out).drew
            have hO := hD3.ent _ (List.getElem_mem hlz)
            rw [HV2.out] at hO
            have HO := Lib.hid hO
            have HR3 := Lib.hid hr3
            have HD3 := Lib.hid hD3
            have hlen3 : Z[k].z.b.length + m.length ≤ 140737488355328 := by have := Hb.out; omega
            have hbw := Nat.le_trans hbz HB2.out.drew.size
            clear hD3 hr3 hO
            go_upto_region 11 with (at_builtin; go_loud (refine wpList_appr rfl (.tmp 60) (.tmp 61) rfl B _ Z[k].z.b rfl HO.out _ m rfl HR3.out hlen3 hbw ?_); intro v1 w1 ho1 hold ha1; rw [← HV2.out] at hold ha1; have hp1 := HD3.out.appPut k hlz ho1 hold ha1 (Nat.le_of_not_lt hfull); have hD1 := HD3.out.appKeep k hlz hold ha1; obtain ⟨a1, c1', rfl, _⟩ := ho1.reads.shape; obtain ⟨_, _, _, _, e0, e1, e2⟩ := hD1.zn k hlz; have fz := hD1.zfz (k * 3 + 1); simp only [List.length_append] at hp1; have HP1 := Lib.hid hp1; clear hold ha1 ho1 hp1 hD1 e0 e2)
            refine gen_wp (fun w' => DM w' B p r (Z.set k ⟨⟨Z[k].z.st, Z[k].z.b ++ m, Z[k].z.fl⟩, .slice a1 (Z[k].z.b.length + m.length) c1'⟩) { D with A := D.A.set k ⟨Z[k].z.st, Z[k].z.b ++ m, Z[k].z.fl⟩ } ∧ Chg (fpD p r Z) w w') ?_ ?_
            · exact ⟨HP1.out.1, (Chg.of_below HB2.out.drew).trans2 HP1.out.2.1 fun i hi h => h⟩
            rintro w4 ⟨hD4, hch4⟩
            have Hfp : Hid (∀ q, fpD p r (Z.set k ⟨⟨Z[k].z.st, Z[k].z.b ++ m, Z[k].z.fl⟩, .slice a1 (Z[k].z.b.length + m.length) c1'⟩) q → fpD p r Z q ∨ w.heap.size ≤ q) := Lib.hid fun q hq => by
              rcases HP1.out.2.2 q hq with h1 | h1
              · exact .inl h1
              · exact .inr (Nat.le_trans HB2.out.drew.size h1)
            obtain ⟨d0, _, _⟩ := hD4.znS hlz
            have fz := hD4.zfz (k * 3)
            have HD4 := Lib.hid hD4
            have HC4 := Lib.hid hch4
            clear hD4 hch4 HD3 HO HP1 HV2 c1 d1
            go_upto_region 12 with (fail)
            refine gen_wp (fun w' => DM w' B p r (Z.set k ⟨⟨1, Z[k].z.b ++ m, Z[k].z.fl⟩, .slice a1 (Z[k].z.b.length + m.length) c1'⟩) { D with A := D.A.set k ⟨1, Z[k].z.b ++ m, Z[k].z.fl⟩ } ∧ Chg (fpD p r Z) w w') ?_ ?_
            · exact ⟨HD4.out.putSt2 hlz 1 (by decide), HC4.out.trans2 (Chg.set w4 r _ _) fun i hi h => .inr (.inl h)⟩
            rintro w5 ⟨hD5, hch5⟩
            obtain ⟨e0, e1, _⟩ := hD5.znS hlz
            simp only at e0 e1
            obtain ⟨_, c1, _, _, _, _, _⟩ := hD5.cells
            have fz5 := hD5.zfz (k * 3)
            have HD5 := Lib.hid hD5
            have HC5 := Lib.hid hch5
            clear hD5 hch5 HD4 HC4 fz d0
            have hcmd : Hid (∀ w6 st, DM w6 B p r (Z.set k ⟨⟨st, Z[k].z.b ++ m, Z[k].z.fl⟩, .slice a1 (Z[k].z.b.length + m.length) c1'⟩) { D with A := D.A.set k ⟨st, Z[k].z.b ++ m, Z[k].z.fl⟩ } → Chg (fpD p r Z) w w6 → res = zcmd { D with A := D.A.set k ⟨st, Z[k].z.b ++ m, Z[k].z.fl⟩ } →
                Calls Tryd.prog 38 #[.pointer (some ⟨p, 0, none⟩)] w6 fun e w' => e = .returned (.int .i64 res.2) ∧ AppOut w B p r Z res.1 w') := Lib.hid fun w6 st h6 hc6 hr6 => by
              rw [hr6]
              refine (zcommand h6 hdn).mono ?_
              rintro e w7 ⟨rfl, h7, hc7⟩
              exact ⟨rfl, ⟨_, h7, fun q hq => Hfp.out q (by refine fpD_v ?_ hq; rfl)⟩, hc6.trans2 hc7 fun i hi e => .inl e⟩
            have hbl : Z[k].z.b.length + m.length ≤ 65536 := by omega
            by_cases hfu : Z[k].z.b.length + m.length = D.size
            · have h7 : DM (w5.setCell ⟨r, k * 3, none⟩ (.int .i64 2)).drew B p r _ _ := (HD5.out.putSt2 hlz 2 (by decide)).below (Below.refl _ _).drew
              have hc7 : Chg (fpD p r Z) w (w5.setCell ⟨r, k * 3, none⟩ (.int .i64 2)).drew := (HC5.out.trans2 (Chg.set w5 r (k * 3) (.int .i64 2)) fun i hi h => .inr (.inl h)).trans (Chg.of_below (Below.refl _ _).drew)
              have e5 := E4.out
              rw [if_pos hfu] at e5
              have Hfin := Lib.hid (hcmd.out _ 2 h7 hc7 e5.symm)
              rw [hfu] at e1
              clear h7 hc7 e5 hfu Hfp E4 HD5 HC5
              go_region
              go_wp2_with fail; (with_reducible refine (Hfin.out).mono ?_); rintro e w8 ⟨rfl, h8⟩
              go_wp2
              go_ret
              exact ⟨rfl, h8⟩
            · have h6 := HD5.out.below (Below.refl _ w5).drew
              have hc7 := HC5.out.trans (Chg.of_below (Below.refl _ w5).drew)
              have e5 := E4.out
              rw [if_neg hfu] at e5
              have Hfin := Lib.hid (hcmd.out _ 1 h6 hc7 e5.symm)
              have hne : (((Z[k].z.b.length + m.length : Nat) : Int) == (D.size : Int)) = false := by rw [beq_eq_false_iff_ne]; omega
              clear h6 hc7 e5 Hfp E4 HD5 HC5
              generalize Z[k].z.b.length + m.length = L2 at *
              clear hfu
              go_region
              go_wp2_with fail; (with_reducible refine (Hfin.out).mono ?_); rintro e w8 ⟨rfl, h8⟩
              go_wp2
              go_ret
              exact ⟨rfl, h8⟩
end Go.Proofs.YtmhklmecpbdljaaDoor
/- A device of zones: Reset, Finish. -/

namespace Go.Proofs.YtmhklmecpbdljaaDoor
open Go.RowKit
set_option linter.unusedVariables false
set_option linter.unusedSimpArgs false

theorem zcmd_two (D : Dv) : ((zcmd D).2 = 0 ∨ (zcmd D).2 = 74) ∧ (zcmd D).1.A = D.A ∧ (zcmd D).1.n = D.n ∧ (zcmd D).1.size = D.size ∧ (zcmd D).1.op = D.op := by
  unfold zcmd
  split
  · exact ⟨.inr rfl, rfl, rfl, rfl, rfl⟩
  · exact ⟨.inl rfl, rfl, rfl, rfl, rfl⟩
/-- a command, and what is done where there was power -/
def zthen (D : Dv) (f : Dv → Dv) : Dv × Int := if (zcmd D).2 = 0 then (f (zcmd D).1, 0) else zcmd D
def zrst (D : Dv) (z : Int) : Dv × Int := if zfnd D z ≠ 0 then (D, zfnd D z) else zthen D fun D' => { D' with A := D'.A.set z.toNat ⟨0, [], 0⟩ }
def zfin (D : Dv) (z : Int) : Dv × Int :=
  if zfnd D z ≠ 0 then (D, zfnd D z) else if h : z.toNat < D.A.length then (if D.A[z.toNat].st = 0 then (D, 71) else zthen D fun D' => { D' with A := D'.A.set z.toNat ⟨2, D.A[z.toNat].b, D.A[z.toNat].fl⟩ }) else (D, 70)
theorem AppOut.p {w w' w2 : World} {B p r : Nat} {Z Z' : List Zm} {D' : Dv} (h : Chg (fun k => k = p) w w') (hD : DM w2 B p r Z' D') (hc : Chg (fpD p r Z) w' w2) (hZ : ∀ q, fpD p r Z' q → fpD p r Z q) : AppOut w B p r Z D' w2 :=
  ⟨⟨Z', hD, fun k hk => .inl (hZ k hk)⟩, (h.mono fun k e => .inl e).trans2 hc fun i hi h => h⟩
end Go.Proofs.YtmhklmecpbdljaaDoor
/- A device of zones: Flush, Crash. -/

namespace Go.Proofs.YtmhklmecpbdljaaDoor
open Go.RowKit
set_option linter.unusedVariables false
set_option linter.unusedSimpArgs false

/-- the first n have turned -/
def zpm (g : Nat → Zn → Zn) (A : List Zn) (n : Nat) : List Zn := A.mapIdx fun i x => if i < n then g i x else x
theorem zpm_len (g : Nat → Zn → Zn) (A : List Zn) (n : Nat) : (zpm g A n).length = A.length := by simp [zpm]
theorem zpm_zero (g : Nat → Zn → Zn) (A : List Zn) : zpm g A 0 = A := List.ext_getElem (by simp [zpm]) fun i h1 h2 => by simp [zpm]
theorem zpm_at (g : Nat → Zn → Zn) (A : List Zn) (n : Nat) (h : n < A.length) : (zpm g A n)[n]'(by rw [zpm_len]; exact h) = A[n] := by simp [zpm]
theorem zpm_set (g : Nat → Zn → Zn) (A : List Zn) (n : Nat) (h : n < A.length) : (zpm g A n).set n (g n A[n]) = zpm g A (n + 1) := by
  refine List.ext_getElem (by simp [zpm]) fun i h1 h2 => ?_
  rw [List.getElem_set]
  by_cases e : n = i
  · subst e; rw [if_pos rfl]; simp [zpm]
  · rw [if_neg e]
    simp only [zpm, List.getElem_mapIdx]
    by_cases h3 : i < n
    · rw [if_pos h3, if_pos (by omega)]
    · rw [if_neg h3, if_neg (by omega)]
theorem zpm_all (g : Nat → Zn → Zn) (A : List Zn) (n : Nat) (h : A.length ≤ n) : zpm g A n = A.mapIdx g := by
  refine List.ext_getElem (by simp [zpm]) fun i h1 h2 => ?_
  rw [zpm_len] at h1
  simp only [zpm, List.getElem_mapIdx]
  rw [if_pos (by omega)]
def zflz (_ : Nat) (z : Zn) : Zn := ⟨z.st, z.b, z.b.length⟩
def zflu (D : Dv) : Dv × Int := if D.down = true then (D, 74) else zthen D fun D' => { D' with A := D'.A.mapIdx zflz }
end Go.Proofs.YtmhklmecpbdljaaDoor
/- A device of zones: Crash. -/

namespace Go.Proofs.YtmhklmecpbdljaaDoor
open Go.RowKit
set_option linter.unusedVariables false
set_option linter.unusedSimpArgs false

/-- numbers that lie somewhere -/
def KZ (w : World) (a : Option Addr) (l : List Int) : Prop := 0 < l.length → ∃ b off, a = some ⟨b, off, none⟩ ∧ ∀ i (h : i < l.length), w.cell? ⟨b, off + i, none⟩ = some (.int .i64 l[i])
theorem cell_blkz {w w' : World} {b j : Nat} (h : w'.heap[b]? = w.heap[b]?) : w'.cell? ⟨b, j, none⟩ = w.cell? ⟨b, j, none⟩ := by
  unfold World.cell?
  simp only [h]
theorem KZ.chg {G : Nat → Prop} {w w' : World} {a : Option Addr} {l : List Int} (h : KZ w a l) (hc : Chg G w w') (hd : ∀ b off, a = some ⟨b, off, none⟩ → ¬ G b) : KZ w' a l := fun hl => by
  obtain ⟨b, off, rfl, hcl⟩ := h hl
  refine ⟨b, off, rfl, fun i hi => ?_⟩
  have hbw : b < w.heap.size := World.block_lt_of_cell? w _ (hcl i hi)
  rw [cell_blkz (hc.block b hbw (hd b off rfl))]
  exact hcl i hi
theorem KZ.below {w w' : World} {a : Option Addr} {l : List Int} (h : KZ w a l) (hb : Below w.heap.size w w') : KZ w' a l := h.chg (G := fun _ => False) (Chg.of_below hb) fun _ _ _ h => h
theorem KZ.lt {w : World} {a : Option Addr} {l : List Int} (h : KZ w a l) (hp : 0 < l.length) : ∀ b off, a = some ⟨b, off, none⟩ → b < w.heap.size := fun b off e => by
  obtain ⟨b', off', e', hc⟩ := h hp
  rw [e] at e'
  simp only [Option.some.injEq, Addr.mk.injEq, and_true] at e'
  rw [e'.1]
  exact World.block_lt_of_cell? w _ (hc 0 hp)
def zmore (keep : List Int) (i : Nat) (z : Zn) : Nat := if h : i < keep.length then (min (max keep[i] 0) ((z.b.length : Int) - (z.fl : Int))).toNat else 0
def zcut (size : Nat) (keep : List Int) (i : Nat) (z : Zn) : Zn :=
  ⟨if z.fl + zmore keep i z = 0 then 0 else if z.fl + zmore keep i z = size ∨ z.st = 2 then 2 else 1, z.b.take (z.fl + zmore keep i z), z.fl + zmore keep i z⟩
def zcrs (D : Dv) (keep : List Int) : Dv := { D with A := D.A.mapIdx (zcut D.size keep), left := -1, down := false }
theorem zmore_le (keep : List Int) (i : Nat) (z : Zn) (h : z.fl ≤ z.b.length) : z.fl + zmore keep i z ≤ z.b.length := by
  unfold zmore
  split
  · omega
  · omega
theorem ob_take {w : World} {B : Nat} {l : List UInt8} {g c : Nat} (h : OB w B (.slice (some ⟨g, 0, none⟩) l.length c) l) (m : Nat) (hm : m ≤ l.length) : OB w B (.slice (some ⟨g, 0, none⟩) m c) (l.take m) := by
  have hl : (l.take m).length = m := by rw [List.length_take]; omega
  rcases h.2 with ⟨h', _⟩ | ⟨g', cap', cur, h', hb, hg, hnc, hcm, hcs, htake⟩
  · simp at h'
  · simp only [Value.slice.injEq, Option.some.injEq, Addr.mk.injEq, and_true, true_and] at h'
    obtain ⟨rfl, rfl⟩ := h'
    refine ⟨by rw [bvs_length, Nat.mul_one], .inr ⟨g, c, cur, by rw [hl], hb, hg, by omega, hcm, hcs, ?_⟩⟩
    have e : bvs (l.take m) = (bvs l).take m := by simp [bvs]
    rw [hl, e, ← htake, List.take_take]
    congr 1
    omega
/-- zone n is on its way -/
def PS (w0 : World) (B p r : Nat) (Z : List Zm) (D : Dv) (A : List Zn) (n : Nat) (a : Zn) (wx : World) : Prop :=
  ∃ Z1, DM wx B p r Z1 { D with A := A.set n a } ∧ (∀ q, fpD p r Z1 q → fpD p r Z q) ∧ Chg (fpD p r Z) w0 wx
section
variable {w0 wx : World} {B p r : Nat} {Z : List Zm} {D : Dv} {A : List Zn} {n : Nat} {a : Zn}
theorem PS.lt (h : PS w0 B p r Z D A n a wx) (hn : n < D.n) : n < A.length := by
  obtain ⟨Z1, hD, _⟩ := h
  have := hD.lenA
  simp only [List.length_set] at this
  omega
theorem PS.cells (h : PS w0 B p r Z D A n a wx) (hn : n < D.n) :
    wx.cell? ⟨r, n * 3, none⟩ = some (.int .i64 (a.st : Nat)) ∧ (∃ ao c, wx.cell? ⟨r, n * 3 + 1, none⟩ = some (.slice ao a.b.length c)) ∧ wx.cell? ⟨r, n * 3 + 2, none⟩ = some (.int .i64 (a.fl : Nat)) ∧ (∀ j, wx.frozen? ⟨r, j, none⟩ = false) ∧ wx.cell? ⟨p, 1, none⟩ = some (.int .i64 (D.size : Nat)) ∧ wx.cell? ⟨p, 3, none⟩ = some (.slice (some ⟨r, 0, none⟩) D.n D.n) := by
  have hA := h.lt hn
  obtain ⟨Z1, hD, _⟩ := h
  have hl : Z1.length = D.n := hD.len
  have hz : n < Z1.length := by omega
  have e : Z1[n].z = a := by
    rw [hD.at n hz]
    simp
  obtain ⟨ao, c, hv, _⟩ := hD.v2 n hz
  refine ⟨?_, ⟨ao, c, ?_⟩, ?_, hD.zfz, hD.c1, hD.c3⟩
  · rw [hD.z0 n hz, e]
  · rw [hD.z1 n hz, hv, e]
  · rw [hD.z2 n hz, e]
theorem PS.drew (h : PS w0 B p r Z D A n a wx) : PS w0 B p r Z D A n a wx.drew := by
  obtain ⟨Z1, hD, hf, hc⟩ := h
  exact ⟨Z1, hD.below (Below.refl _ _).drew, hf, hc.trans (Chg.of_below (Below.refl _ _).drew)⟩
theorem PS.st (h : PS w0 B p r Z D A n a wx) (hn : n < D.n) (s : Nat) (hs : s ≤ 2) : PS w0 B p r Z D A n ⟨s, a.b, a.fl⟩ (wx.setCell ⟨r, n * 3, none⟩ (.int .i64 (s : Nat))) := by
  have hA := h.lt hn
  obtain ⟨Z1, hD, hf, hc⟩ := h
  have hl : Z1.length = D.n := hD.len
  have hz : n < Z1.length := by omega
  have e : Z1[n].z = a := by
    rw [hD.at n hz]
    simp
  have h1 := hD.putSt n hz s hs
  rw [e] at h1
  simp only [List.set_set] at h1
  exact ⟨_, h1, fun q hq => hf q (fpD_same hz q hq), hc.trans2 (Chg.set wx r _ _) fun i hi h => .inr (.inl h)⟩
theorem PS.fl (h : PS w0 B p r Z D A n a wx) (hn : n < D.n) (f : Nat) (hs : f ≤ a.b.length) : PS w0 B p r Z D A n ⟨a.st, a.b, f⟩ (wx.setCell ⟨r, n * 3 + 2, none⟩ (.int .i64 (f : Nat))) := by
  have hA := h.lt hn
  obtain ⟨Z1, hD, hf, hc⟩ := h
  have hl : Z1.length = D.n := hD.len
  have hz : n < Z1.length := by omega
  have e : Z1[n].z = a := by
    rw [hD.at n hz]
    simp
  have h1 := hD.putFl n hz f (by rw [e]; exact hs)
  rw [e] at h1
  simp only [List.set_set] at h1
  exact ⟨_, h1, fun q hq => hf q (fpD_same hz q hq), hc.trans2 (Chg.set wx r _ _) fun i hi h => .inr (.inl h)⟩
theorem PS.bt (h : PS w0 B p r Z D A n a wx) (hn : n < D.n) :
    (a.b = [] ∧ wx.cell? ⟨r, n * 3 + 1, none⟩ = some (.slice none 0 0) ∧ PS w0 B p r Z D A n a (wx.setCell ⟨r, n * 3 + 1, none⟩ (.slice none 0 0))) ∨
    ∃ g c, a.b.length ≤ c ∧ c ≤ maxLen ∧ wx.cell? ⟨r, n * 3 + 1, none⟩ = some (.slice (some ⟨g, 0, none⟩) a.b.length c) ∧
      ∀ m, m ≤ a.b.length → a.fl ≤ m → PS w0 B p r Z D A n ⟨a.st, a.b.take m, a.fl⟩ (wx.setCell ⟨r, n * 3 + 1, none⟩ (.slice (some ⟨g, 0, none⟩) m c)) := by
  have hA := h.lt hn
  obtain ⟨Z1, hD, hf, hc⟩ := h
  have hl : Z1.length = D.n := hD.len
  have hz : n < Z1.length := by omega
  have e : Z1[n].z = a := by
    rw [hD.at n hz]
    simp
  have hok := hD.zok n hz
  have ho := hD.ent _ (List.getElem_mem hz)
  have c1 := hD.z1 n hz
  have key : ∀ v b, OB wx B v b → v.ownBlock = Z1[n].v.ownBlock → ZnOk D.size ⟨a.st, b, a.fl⟩ → PS w0 B p r Z D A n ⟨a.st, b, a.fl⟩ (wx.setCell ⟨r, n * 3 + 1, none⟩ v) := fun v b h1 h2 h3 => by
    have h4 := hD.putZ n hz (n * 3 + 1) v ⟨⟨Z1[n].z.st, b, Z1[n].z.fl⟩, v⟩ (zrow_set1 Z1 n hz v b) h1 (fun q hq => .inl (by rw [← h2]; exact hq)) (by rw [e]; exact h3)
    rw [e] at h4
    simp only [List.set_set] at h4
    exact ⟨_, h4, fun q hq => hf q (by
      rcases fpD_set hz hq with h5 | h5
      · exact h5
      · exact .inr (.inr ⟨_, List.getElem_mem hz, by rw [← h2]; exact h5⟩)), hc.trans2 (Chg.set wx r _ _) fun i hi h => .inr (.inl h)⟩
  rcases hD.zn2 n hz with ⟨hv, hb⟩ | ⟨g, c, hv, hcl, hcm, _, _⟩
  · rw [e] at hb hok
    refine .inl ⟨hb, by rw [c1, hv], ?_⟩
    have := key (.slice none 0 0) a.b (by rw [hb]; exact OB.nil _ _) (by rw [hv]) hok
    exact this
  · rw [e] at hv hcl hok ho
    rw [hv] at ho
    refine .inr ⟨g, c, hcl, hcm, by rw [c1, hv], fun m hm hfm => ?_⟩
    exact key _ _ (ob_take ho m hm) (by rw [hv]; rfl) ⟨by simp only [List.length_take]; have h5 : a.b.length ≤ D.size := hok.len; omega, by simp only [List.length_take]; omega, hok.st⟩
end
end Go.Proofs.YtmhklmecpbdljaaDoor
/- A device of zones: the walk of Crash. -/

namespace Go.Proofs.YtmhklmecpbdljaaDoor
open Go.RowKit
set_option linter.unusedVariables false
set_option linter.unusedSimpArgs false

end Go.Proofs.YtmhklmecpbdljaaDoor
/- A device of zones: Check, New. -/

namespace Go.Proofs.YtmhklmecpbdljaaDoor
open Go.RowKit
set_option linter.unusedVariables false
set_option linter.unusedSimpArgs false

theorem box3 (w : World) (a b c : Value) (T : TypeId) : (w.alloc (.cells #[a, b, c] T)).cell? ⟨w.heap.size, 0, none⟩ = some a ∧ (w.alloc (.cells #[a, b, c] T)).cell? ⟨w.heap.size, 1, none⟩ = some b ∧ (w.alloc (.cells #[a, b, c] T)).cell? ⟨w.heap.size, 2, none⟩ = some c := by
  refine ⟨?_, ?_, ?_⟩ <;> (rw [cell_of_row _ _ _ _ _ _ (heap_alloc_new w _)]; rfl)
def gchk (z s o : Int) : Bool := decide (1 ≤ z ∧ z ≤ 64 ∧ 16 ≤ s ∧ s ≤ 65536 ∧ 1 ≤ o ∧ o ≤ z)
set_option maxHeartbeats 4000000 in
theorem zcheck (w : World) (z s o : Int) : Calls Tryd.prog 58 #[.agg #[.int .i64 z, .int .i64 s, .int .i64 o]] w fun e w' => e = .returned (.bool (gchk z s o)) ∧ Below w.heap.size w w' := by
  by_cases hg : 1 ≤ z ∧ z ≤ 64 ∧ 16 ≤ s ∧ s ≤ 65536 ∧ 1 ≤ o ∧ o ≤ z
  · have e : gchk z s o = true := decide_eq_true hg
    rw [e]
    obtain ⟨h1, h2, h3, h4, h5, h6⟩ := hg
    clear e
    go_enter Tryd.func58, Tryd.ntmps58
    go_wp2
    go_ret
    exact ⟨rfl, by (repeat first | exact Below.refl _ _ | refine Below.drew ?_ | refine Below.alloc ?_ (by simp <;> omega) _ | refine Below.setCell ?_ (by simp <;> omega) _)⟩
  · have e : gchk z s o = false := decide_eq_false hg
    rw [e]
    have h7 : z < 1 ∨ (1 ≤ z ∧ 64 < z) ∨ (1 ≤ z ∧ z ≤ 64 ∧ s < 16) ∨ (1 ≤ z ∧ z ≤ 64 ∧ 16 ≤ s ∧ 65536 < s) ∨ (1 ≤ z ∧ z ≤ 64 ∧ 16 ≤ s ∧ s ≤ 65536 ∧ o < 1) ∨ (1 ≤ z ∧ z ≤ 64 ∧ 16 ≤ s ∧ s ≤ 65536 ∧ 1 ≤ o ∧ z < o) := by omega
    clear e hg
    rcases h7 with h1 | ⟨h1, h2⟩ | ⟨h1, h2, h3⟩ | ⟨h1, h2, h3, h4⟩ | ⟨h1, h2, h3, h4, h5⟩ | ⟨h1, h2, h3, h4, h5, h6⟩
    all_goals
      go_enter Tryd.func58, Tryd.ntmps58
      go_wp2
      go_ret
      refine ⟨?_, by (repeat first | exact Below.refl _ _ | refine Below.drew ?_ | refine Below.alloc ?_ (by simp <;> omega) _ | refine Below.setCell ?_ (by simp <;> omega) _)⟩
      first | rfl | (simp; omega)
theorem areaInfo : (Tryd.prog.info? 86).map (fun i => (i.zero, i.size, i.bytes)) = some (some (.agg #[.int .i64 0, .slice none 0 0, .int .i64 0]), 3, 40) := by kernel_rfl
theorem zrow_repl : ∀ n : Nat, zrow (List.replicate n ⟨⟨0, [], 0⟩, .slice none 0 0⟩) = (List.replicate n [Value.int .i64 0, .slice none 0 0, .int .i64 0]).flatten
  | 0 => rfl
  | n + 1 => by
    rw [List.replicate_succ, zrow_cons, zrow_repl n, List.replicate_succ]
    rfl
theorem made3 (x y z : Value) (n : Nat) : (madeCells #[x, y, z] (n * 3)).toList = (List.replicate n [x, y, z]).flatten := by
  have e : (madeCells #[x, y, z] (n * 3)).toList = (List.range (n * 3)).map (fun i => (#[x, y, z] : Array Value)[i % 3]!) := by simp [madeCells]
  rw [e]
  clear e
  induction n with
  | zero => rfl
  | succ n ih =>
    have h0 : n * 3 % 3 = 0 := by omega
    have h1 : (n * 3 + 1) % 3 = 1 := by omega
    have h2 : (n * 3 + 2) % 3 = 2 := by omega
    rw [show (n + 1) * 3 = n * 3 + 1 + 1 + 1 by omega, List.range_succ, List.range_succ, List.range_succ, List.map_append, List.map_append, List.map_append, ih, List.replicate_succ', List.flatten_append]
    simp only [List.map_cons, List.map_nil, h0, h1, h2, List.append_assoc]
    rfl
def dv0 (n size op : Nat) : Dv := ⟨n, size, op, List.replicate n ⟨0, [], 0⟩, -1, 0, false⟩
def zm0 (n : Nat) : List Zm := List.replicate n ⟨⟨0, [], 0⟩, .slice none 0 0⟩
theorem zm0_mem {n : Nat} {x : Zm} (h : x ∈ zm0 n) : x = ⟨⟨0, [], 0⟩, .slice none 0 0⟩ := List.eq_of_mem_replicate h
theorem dm_new {w : World} {B r n s o : Nat} (hg : gchk n s o = true) (hrow : w.ownsRow B 86 3 (.slice (some ⟨r, 0, none⟩) n n) n (madeCells (Value.agg #[.int .i64 0, .slice none 0 0, .int .i64 0]).cells (n * 3)).toList) (hB : B ≤ w.heap.size) :
    DM (w.alloc (.cells (dvals (dv0 n s o) r).toArray 89 (0, 0))) B w.heap.size r (zm0 n) (dv0 n s o) := by
  have hg2 : (1 : Int) ≤ n ∧ (n : Int) ≤ 64 ∧ (16 : Int) ≤ s ∧ (s : Int) ≤ 65536 ∧ (1 : Int) ≤ o ∧ (o : Int) ≤ n := of_decide_eq_true hg
  have ec : (Value.agg #[.int .i64 0, .slice none 0 0, .int .i64 0]).cells = #[.int .i64 0, .slice none 0 0, .int .i64 0] := rfl
  rw [ec, made3, ← zrow_repl] at hrow
  have hr := (World.ownsRow.lt hrow r rfl).2
  refine ⟨heap_alloc_new w _, World.ownsRow.alloc hrow _, ?_, ?_, ?_, by omega, hB, by simp [zm0, dv0], ?_⟩
  · intro x hx; rw [zm0_mem hx]; exact OB.nil _ _
  · intro i j hi hj k hk _
    rw [zm0_mem (List.getElem_mem hi)] at hk
    simp [Value.ownBlock] at hk
  · intro x hx; rw [zm0_mem hx]; simp [Value.ownBlock]
  · exact ⟨by simp only [dv0]; omega, by simp only [dv0]; omega, by simp only [dv0]; omega, by simp only [dv0]; omega, by simp only [dv0]; omega, by simp only [dv0]; omega, by simp only [dv0]; omega, by simp only [dv0]; omega, by simp only [dv0]; omega, fun z hz => by
      rw [List.eq_of_mem_replicate hz]; exact ⟨Nat.zero_le _, Nat.le_refl _, by decide⟩⟩
set_option maxHeartbeats 4000000 in
theorem znew_nil (w : World) (n s o : Int) (hg : gchk n s o = false) : Calls Tryd.prog 33 #[.agg #[.int .i64 n, .int .i64 s, .int .i64 o]] w fun e w' => e = .returned (.pointer none) ∧ Below w.heap.size w w' := by
  have Hck : Hid (∀ W, Calls Tryd.prog 58 #[.agg #[.int .i64 n, .int .i64 s, .int .i64 o]] W fun e w' => e = .returned (.bool false) ∧ Below W.heap.size W w') := Lib.hid fun W => by
    have := zcheck W n s o
    rw [hg] at this; exact this
  clear hg
  go_enter Tryd.func33, Tryd.ntmps33
  go_wp2_with fail; (with_reducible refine (Hck.out _).mono ?_); rintro e w2 ⟨rfl, hb2⟩
  go_wp2
  go_ret
  exact ⟨rfl, ((Below.refl _ w).alloc (Nat.le_refl _) _).trans (hb2.mono (by simp))⟩
set_option maxRecDepth 100000 in
set_option maxHeartbeats 4000000 in
theorem znew (w : World) (n s o : Nat) (hg : gchk n s o = true) : Calls Tryd.prog 33 #[.agg #[.int .i64 n, .int .i64 s, .int .i64 o]] w fun e w' => ∃ p r, e = .returned (.pointer (some ⟨p, 0, none⟩)) ∧ DM w' w.heap.size p r (zm0 n) (dv0 n s o) ∧ Below w.heap.size w w' := by
  have Hck : Hid (∀ W, Calls Tryd.prog 58 #[.agg #[.int .i64 n, .int .i64 s, .int .i64 o]] W fun e w' => e = .returned (.bool true) ∧ Below W.heap.size W w') := Lib.hid fun W => by
    have := zcheck W n s o
    rw [hg] at this; exact this
  have hg2 : (1 : Int) ≤ n ∧ (n : Int) ≤ 64 ∧ (16 : Int) ≤ s ∧ (s : Int) ≤ 65536 ∧ (1 : Int) ≤ o ∧ (o : Int) ≤ n := of_decide_eq_true hg
  have hn64 : n ≤ 64 := by omega
  have HG := Lib.hid hg
  obtain ⟨i0, hi, hz0, hz1, hz2⟩ := info_parts areaInfo
  have Hi := Lib.hid hi
  have Hz0 := Lib.hid hz0
  have Hz3 := Lib.hid hz1
  have Hzb := Lib.hid hz2
  clear hg hg2 hi hz0 hz1 hz2
  go_enter Tryd.func33, Tryd.ntmps33
  go_wp2_with fail; (with_reducible refine (Hck.out _).mono ?_); rintro e w2 ⟨rfl, hb2⟩
  have hbw : Below w.heap.size w w2.drew := (((Below.refl _ w).alloc (Nat.le_refl _) _).trans (hb2.mono (by simp))).drew
  have a0 : w2.drew.cell? ⟨w.heap.size, 0, none⟩ = some (.int .i64 n) := cell_next (box3 w _ _ _ _).1 _ hb2.drew
  have a1 : w2.drew.cell? ⟨w.heap.size, 1, none⟩ = some (.int .i64 s) := cell_next (box3 w _ _ _ _).2.1 _ hb2.drew
  have a2 : w2.drew.cell? ⟨w.heap.size, 2, none⟩ = some (.int .i64 o) := cell_next (box3 w _ _ _ _).2.2 _ hb2.drew
  have b0 : w2.cell? ⟨w.heap.size, 0, none⟩ = some (.int .i64 n) := a0
  have b1 : w2.cell? ⟨w.heap.size, 1, none⟩ = some (.int .i64 s) := a1
  have b2 : w2.cell? ⟨w.heap.size, 2, none⟩ = some (.int .i64 o) := a2
  have hsz : w.heap.size ≤ w2.drew.heap.size := hbw.size
  have h40 : 40 * n ≤ 281474976710656 := by omega
  have hml : n ≤ maxLen := by unfold maxLen; omega
  have HB := Lib.hid hbw
  have A0 := cell_next a0
  have A1 := cell_next a1
  have A2 := cell_next a2
  clear hbw hb2 a0 a1 a2
  go_upto_region 3 with (fail)
  obtain ⟨w3, hrun, ho3, hg3⟩ := run_make_full (P := Tryd.prog) w2.drew w.heap.size 87 86 i0 (.agg #[.int .i64 0, .slice none 0 0, .int .i64 0]) 3 Tryd.underlying87 Hi.out Hz0.out Hz3.out .i64 .i64 n (by rw [Hzb.out]; exact h40) hml hsz
  have hb3 : Below w2.drew.heap.size w2.drew w3 := ⟨hg3.os, hg3.tape, hg3.output, hg3.size, fun k hk => hg3.block k hk (by simp)⟩
  have e0 := A0 _ hb3
  have e1 := A1 _ hb3
  have e2 := A2 _ hb3
  clear hg3 A0 A1 A2
  go_region
  all_goals
    go_wp2
    go_ret
    refine ⟨_, _, rfl, dm_new HG.out ho3 (Nat.le_trans hsz hb3.size), ?_⟩
    exact (HB.out.trans (hb3.mono hsz)).alloc (Nat.le_trans hsz hb3.size) _
end Go.Proofs.YtmhklmecpbdljaaDoor
/- A device of zones: its contracts. -/

namespace Go.Proofs.YtmhklmecpbdljaaDoor
open Go.RowKit
set_option linter.unusedVariables false
set_option linter.unusedSimpArgs false

/-- at block p lies a device, in the blocks F -/
def DI (w : World) (B p : Nat) (F : Nat → Prop) (D : Dv) : Prop := ∃ r Z, (∀ k, F k ↔ fpD p r Z k) ∧ DM w B p r Z D
/-- what a call leaves -/
def DOut (w : World) (B p : Nat) (F : Nat → Prop) (D' : Dv) (w' : World) : Prop := (∃ F', DI w' B p F' D' ∧ ∀ k, F' k → F k ∨ w.heap.size ≤ k) ∧ Chg F w w'
section
variable {w w' : World} {B p : Nat} {F : Nat → Prop} {D D' : Dv}
theorem DI.ok (h : DI w B p F D) : DvOk D := by obtain ⟨r, Z, _, hD⟩ := h; exact hD.ok
theorem DI.lenA (h : DI w B p F D) : D.A.length = D.n := by obtain ⟨r, Z, _, hD⟩ := h; exact hD.lenA
theorem DI.ge (h : DI w B p F D) : ∀ k, F k → B ≤ k ∧ k < w.heap.size := by
  obtain ⟨r, Z, hF, hD⟩ := h
  exact fun k hk => ⟨hD.ge k ((hF k).1 hk), hD.lt k ((hF k).1 hk)⟩
theorem DI.room (h : DI w B p F D) : B ≤ w.heap.size := by
  obtain ⟨r, Z, hF, hD⟩ := h
  have := hD.low; have := blk_lt hD.box; omega
theorem DI.chg {G : Nat → Prop} (h : DI w B p F D) (hc : Chg G w w') (hd : ∀ k, F k → ¬ G k) : DI w' B p F D := by
  obtain ⟨r, Z, hF, hD⟩ := h
  exact ⟨r, Z, hF, hD.chg hc fun k hk => hd k ((hF k).2 hk)⟩
theorem DI.below (h : DI w B p F D) (hb : Below w.heap.size w w') : DI w' B p F D := h.chg (G := fun _ => False) (Chg.of_below hb) fun _ _ h => h
theorem DOut.of {r : Nat} {Z : List Zm} (hF : ∀ k, F k ↔ fpD p r Z k) (h : AppOut w B p r Z D' w') : DOut w B p F D' w' := by
  obtain ⟨⟨Z', hD, hf⟩, hc⟩ := h
  exact ⟨⟨fpD p r Z', ⟨r, Z', fun k => Iff.rfl, hD⟩, fun k hk => by
    rcases hf k hk with h | h
    · exact .inl ((hF k).2 h)
    · exact .inr h⟩, hc.mono fun k hk => (hF k).2 hk⟩
theorem DOut.below (h : DOut w B p F D' w') (hD : DI w B p F D) : Below B w w' := h.2.below (fun k hk => (hD.ge k hk).1) hD.room
theorem DI.new (w : World) (n s o : Nat) (hg : gchk n s o = true) : Calls Tryd.prog 33 #[.agg #[.int .i64 n, .int .i64 s, .int .i64 o]] w fun e w' => ∃ p F, e = .returned (.pointer (some ⟨p, 0, none⟩)) ∧ DI w' w.heap.size p F (dv0 n s o) ∧ Below w.heap.size w w' :=
  (znew w n s o hg).mono fun e w' ⟨p, r, h1, h2, h3⟩ => ⟨p, fpD p r (zm0 n), h1, ⟨r, _, fun k => Iff.rfl, h2⟩, h3⟩
theorem DI.append {er : Int} (h : DI w B p F D) (hdn : D.done < 4611686018427387904) (z : Int) {m : List UInt8} {ao : Option Addr} {n c : Nat} (hr : RB w (.slice ao n c) m) (hml : m.length ≤ 1000000) (e0 : zapp D z m = (D', er)) :
    Calls Tryd.prog 14 #[.pointer (some ⟨p, 0, none⟩), .int .i64 z, .slice ao n c] w fun e w' => e = .returned (.int .i64 er) ∧ DOut w B p F D' w' := by
  obtain ⟨r, Z, hF, hD⟩ := h
  have hn := hr.len
  subst hn
  refine (zappend hD hdn z hr hml).mono ?_
  rintro e w' ⟨rfl, h2⟩
  rw [e0] at h2 ⊢
  exact ⟨rfl, DOut.of hF h2⟩
theorem DI.read (h : DI w B p F D) (z at' n : Int) :
    Calls Tryd.prog 40 #[.pointer (some ⟨p, 0, none⟩), .int .i64 z, .int .i64 at', .int .i64 n] w fun e w' => ∃ v, e = .returned (.tuple #[v, .int .i64 (zread D z at' n).2]) ∧ OB w' w.heap.size v (zread D z at' n).1 ∧ Below w.heap.size w w' := by
  obtain ⟨r, Z, hF, hD⟩ := h
  exact zreads hD z at' n
theorem DI.state (h : DI w B p F D) (z : Int) : Calls Tryd.prog 56 #[.pointer (some ⟨p, 0, none⟩), .int .i64 z] w fun e w' => e = .returned (.int .i64 (zst D z)) ∧ w = w' := by
  obtain ⟨r, Z, hF, hD⟩ := h
  exact zstate hD z
theorem DI.pointer (h : DI w B p F D) (z : Int) : Calls Tryd.prog 24 #[.pointer (some ⟨p, 0, none⟩), .int .i64 z] w fun e w' => e = .returned (.int .i64 (zpt D z)) ∧ w = w' := by
  obtain ⟨r, Z, hF, hD⟩ := h
  exact zpointer hD z
theorem DI.opened (h : DI w B p F D) : Calls Tryd.prog 37 #[.pointer (some ⟨p, 0, none⟩)] w fun e w' => e = .returned (.int .i64 (zopn D.A : Nat)) ∧ Below w.heap.size w w' := by
  obtain ⟨r, Z, hF, hD⟩ := h
  exact zopened hD
end
end Go.Proofs.YtmhklmecpbdljaaDoor
