/- A device of zones: plainly, and in memory. -/
import Derived.Test.YtcgjkgcafkcgoaaRow
import Derived.Test.YtcgjkgcafkcgoaaSep
import Derived.Test.YtcgjkgcafkcgoaaRd
namespace Go.Proofs.Ytcgjkgcafkcgoaa
open Go.RowKit
set_option linter.unusedVariables false
set_option linter.unusedSimpArgs false

theorem heap_set_listz {w : World} {q : Nat} {l : List Value} {T : TypeId} (h : w.heap[q]? = some (.cells l.toArray T (0, 0))) (i : Nat) (v : Value) : (w.setCell ⟨q, i, none⟩ v).heap[q]? = some (.cells (l.set i v).toArray T (0, 0)) := by
  simp only [World.setCell, Array.getElem?_modify, if_true, h, Option.map_some]
  simp
structure Zn where
  st : Nat
  b : List UInt8
  fl : Nat
structure Dv where
  n : Nat
  size : Nat
  op : Nat
  A : List Zn
  left : Int
  done : Nat
  down : Bool
/-- a zone, and the slice that holds its bytes -/
structure Zm where
  z : Zn
  v : Value
structure ZnOk (size : Nat) (z : Zn) : Prop where
  len : z.b.length ≤ size
  fl : z.fl ≤ z.b.length
  st : z.st ≤ 2
structure DvOk (D : Dv) : Prop where
  n1 : 1 ≤ D.n
  n2 : D.n ≤ 64
  s1 : 16 ≤ D.size
  s2 : D.size ≤ 65536
  o1 : 1 ≤ D.op
  o2 : D.op ≤ D.n
  l1 : -1 ≤ D.left
  l2 : D.left ≤ 9223372036854775807
  dn : D.done ≤ 4611686018427387904
  zs : ∀ z ∈ D.A, ZnOk D.size z

def zrow (Z : List Zm) : List Value := Z.flatMap fun x => [.int .i64 (x.z.st : Nat), x.v, .int .i64 (x.z.fl : Nat)]
theorem zrow_cons (x : Zm) (L : List Zm) : zrow (x :: L) = .int .i64 (x.z.st : Nat) :: x.v :: .int .i64 (x.z.fl : Nat) :: zrow L := rfl
theorem zrow_len : ∀ l : List Zm, (zrow l).length = l.length * 3
  | [] => rfl
  | x :: l => by rw [zrow_cons, List.length_cons, List.length_cons, List.length_cons, List.length_cons, zrow_len l]; omega
theorem zrow_at : ∀ (l : List Zm) (k : Nat) (h : k < l.length), (zrow l)[k * 3]? = some (.int .i64 (l[k].z.st : Nat)) ∧ (zrow l)[k * 3 + 1]? = some l[k].v ∧ (zrow l)[k * 3 + 2]? = some (.int .i64 (l[k].z.fl : Nat))
  | x :: l, 0, _ => ⟨rfl, rfl, rfl⟩
  | x :: l, k + 1, h => by
    have ih := zrow_at l k (by simpa using h)
    rw [zrow_cons, show (k + 1) * 3 = k * 3 + 3 by omega]
    exact ih
theorem zrow_set0 : ∀ (l : List Zm) (k : Nat) (h : k < l.length) (s : Nat), (zrow l).set (k * 3) (.int .i64 (s : Nat)) = zrow (l.set k ⟨⟨s, l[k].z.b, l[k].z.fl⟩, l[k].v⟩)
  | x :: l, 0, _, s => rfl
  | x :: l, k + 1, h, s => by
    have ih := zrow_set0 l k (by simpa using h) s
    rw [List.set_cons_succ, zrow_cons, zrow_cons, show (k + 1) * 3 = k * 3 + 3 by omega]
    simp only [List.set_cons_succ, List.getElem_cons_succ, ih]
theorem zrow_set1 : ∀ (l : List Zm) (k : Nat) (h : k < l.length) (v : Value) (b : List UInt8), (zrow l).set (k * 3 + 1) v = zrow (l.set k ⟨⟨l[k].z.st, b, l[k].z.fl⟩, v⟩)
  | x :: l, 0, _, v, b => rfl
  | x :: l, k + 1, h, v, b => by
    have ih := zrow_set1 l k (by simpa using h) v b
    rw [List.set_cons_succ, zrow_cons, zrow_cons, show (k + 1) * 3 + 1 = k * 3 + 1 + 3 by omega]
    simp only [List.set_cons_succ, List.getElem_cons_succ, ih]
theorem zrow_set2 : ∀ (l : List Zm) (k : Nat) (h : k < l.length) (f : Nat), (zrow l).set (k * 3 + 2) (.int .i64 (f : Nat)) = zrow (l.set k ⟨⟨l[k].z.st, l[k].z.b, f⟩, l[k].v⟩)
  | x :: l, 0, _, f => rfl
  | x :: l, k + 1, h, f => by
    have ih := zrow_set2 l k (by simpa using h) f
    rw [List.set_cons_succ, zrow_cons, zrow_cons, show (k + 1) * 3 + 2 = k * 3 + 2 + 3 by omega]
    simp only [List.set_cons_succ, List.getElem_cons_succ, ih]

/-- the blocks of a device -/
def fpD (p r : Nat) (Z : List Zm) (k : Nat) : Prop := k = p ∨ k = r ∨ ∃ x ∈ Z, x.v.ownBlock = some k
def dvals (D : Dv) (r : Nat) : List Value := [.int .i64 (D.n : Nat), .int .i64 (D.size : Nat), .int .i64 (D.op : Nat), .slice (some ⟨r, 0, none⟩) D.n D.n, .int .i64 D.left, .int .i64 (D.done : Nat), .bool D.down]
/-- at block p lies a device, its areas in block r -/
structure DM (w : World) (B p r : Nat) (Z : List Zm) (D : Dv) : Prop where
  box : w.heap[p]? = some (.cells (dvals D r).toArray 74 (0, 0))
  row : w.ownsRow B 70 3 (.slice (some ⟨r, 0, none⟩) D.n D.n) D.n (zrow Z)
  ent : ∀ x ∈ Z, OB w B x.v x.z.b
  apart : ∀ i j (hi : i < Z.length) (hj : j < Z.length) k, Z[i].v.ownBlock = some k → Z[j].v.ownBlock = some k → i = j
  off : ∀ x ∈ Z, x.v.ownBlock ≠ some p ∧ x.v.ownBlock ≠ some r
  pr : p ≠ r
  low : B ≤ p
  abs : Z.map Zm.z = D.A
  ok : DvOk D

theorem DM.len {w : World} {B p r : Nat} {Z : List Zm} {D : Dv} (h : DM w B p r Z D) : Z.length = D.n := by
  have := h.row.1
  rw [zrow_len] at this; omega
theorem DM.lenA {w : World} {B p r : Nat} {Z : List Zm} {D : Dv} (h : DM w B p r Z D) : D.A.length = D.n := by
  rw [← h.abs, List.length_map, h.len]
theorem DM.at {w : World} {B p r : Nat} {Z : List Zm} {D : Dv} (h : DM w B p r Z D) (k : Nat) (hk : k < Z.length) : Z[k].z = D.A[k]'(by rw [h.lenA, ← h.len]; exact hk) := by
  simp only [← h.abs, List.getElem_map]
theorem DM.lt {w : World} {B p r : Nat} {Z : List Zm} {D : Dv} (h : DM w B p r Z D) : ∀ k, fpD p r Z k → k < w.heap.size := by
  rintro k (rfl | rfl | ⟨x, hx, hk⟩)
  · exact blk_lt h.box
  · exact (World.ownsRow.lt h.row k rfl).2
  · exact ((h.ent x hx).lt hk).2
theorem DM.ge {w : World} {B p r : Nat} {Z : List Zm} {D : Dv} (h : DM w B p r Z D) : ∀ k, fpD p r Z k → B ≤ k := by
  rintro k (rfl | rfl | ⟨x, hx, hk⟩)
  · exact h.low
  · exact (World.ownsRow.lt h.row k rfl).1
  · exact ((h.ent x hx).lt hk).1
theorem DM.chg {G : Nat → Prop} {w w' : World} {B p r : Nat} {Z : List Zm} {D : Dv} (h : DM w B p r Z D) (hc : Chg G w w') (hd : ∀ k, fpD p r Z k → ¬ G k) : DM w' B p r Z D :=
  ⟨blk_chg h.box hc (hd p (.inl rfl)), row_same h.row fun k hk => hc.block k (World.ownsRow.lt h.row k hk).2 (hd k (.inr (.inl (by simpa [Value.ownBlock] using hk.symm)))), fun x hx => (h.ent x hx).chg hc fun k hk => hd k (.inr (.inr ⟨x, hx, hk⟩)), h.apart, h.off, h.pr, h.low, h.abs, h.ok⟩
theorem DM.below {w w' : World} {B p r : Nat} {Z : List Zm} {D : Dv} (h : DM w B p r Z D) (hb : Below w.heap.size w w') : DM w' B p r Z D :=
  h.chg (G := fun _ => False) (Chg.of_below hb) fun _ _ h => h
/-- the cells of the device's own block -/
theorem DM.cells {w : World} {B p r : Nat} {Z : List Zm} {D : Dv} (h : DM w B p r Z D) :
    w.cell? ⟨p, 0, none⟩ = some (.int .i64 (D.n : Nat)) ∧ w.cell? ⟨p, 1, none⟩ = some (.int .i64 (D.size : Nat)) ∧ w.cell? ⟨p, 2, none⟩ = some (.int .i64 (D.op : Nat)) ∧ w.cell? ⟨p, 3, none⟩ = some (.slice (some ⟨r, 0, none⟩) D.n D.n) ∧
      w.cell? ⟨p, 4, none⟩ = some (.int .i64 D.left) ∧ w.cell? ⟨p, 5, none⟩ = some (.int .i64 (D.done : Nat)) ∧ w.cell? ⟨p, 6, none⟩ = some (.bool D.down) := by
  refine ⟨?_, ?_, ?_, ?_, ?_, ?_, ?_⟩ <;> (rw [cell_of_row _ _ _ _ _ _ h.box]; rfl)
theorem DM.frz {w : World} {B p r : Nat} {Z : List Zm} {D : Dv} (h : DM w B p r Z D) (j : Nat) : w.frozen? ⟨p, j, none⟩ = false := by simp [World.frozen?, h.box]
/-- the cells of zone k -/
theorem DM.zn {w : World} {B p r : Nat} {Z : List Zm} {D : Dv} (h : DM w B p r Z D) (k : Nat) (hk : k < Z.length) :
    ∃ a c, Z[k].v = .slice a Z[k].z.b.length c ∧ Z[k].z.b.length ≤ c ∧ w.cell? ⟨r, k * 3, none⟩ = some (.int .i64 (Z[k].z.st : Nat)) ∧ w.cell? ⟨r, k * 3 + 1, none⟩ = some (.slice a Z[k].z.b.length c) ∧ w.cell? ⟨r, k * 3 + 2, none⟩ = some (.int .i64 (Z[k].z.fl : Nat)) := by
  obtain ⟨a, c, hv, hc⟩ := (h.ent _ (List.getElem_mem hk)).reads.shape
  obtain ⟨x0, x1, x2⟩ := zrow_at Z k hk
  rw [hv] at x1
  have hl := h.len
  refine ⟨a, c, hv, hc, ?_, ?_, ?_⟩
  · rw [World.ownsRow.cellAt h.row _ (by omega)]; exact x0
  · rw [World.ownsRow.cellAt h.row _ (by omega)]; exact x1
  · rw [World.ownsRow.cellAt h.row _ (by omega)]; exact x2
theorem DM.zfz {w : World} {B p r : Nat} {Z : List Zm} {D : Dv} (h : DM w B p r Z D) (j : Nat) : w.frozen? ⟨r, j, none⟩ = false := World.ownsRow.frozenAt h.row j
theorem DM.c0 {w : World} {B p r : Nat} {Z : List Zm} {D : Dv} (h : DM w B p r Z D) : w.cell? ⟨p, 0, none⟩ = some (.int .i64 (D.n : Nat)) := h.cells.1
theorem DM.c1 {w : World} {B p r : Nat} {Z : List Zm} {D : Dv} (h : DM w B p r Z D) : w.cell? ⟨p, 1, none⟩ = some (.int .i64 (D.size : Nat)) := h.cells.2.1
theorem DM.c2 {w : World} {B p r : Nat} {Z : List Zm} {D : Dv} (h : DM w B p r Z D) : w.cell? ⟨p, 2, none⟩ = some (.int .i64 (D.op : Nat)) := h.cells.2.2.1
theorem DM.c3 {w : World} {B p r : Nat} {Z : List Zm} {D : Dv} (h : DM w B p r Z D) : w.cell? ⟨p, 3, none⟩ = some (.slice (some ⟨r, 0, none⟩) D.n D.n) := h.cells.2.2.2.1
theorem DM.c4 {w : World} {B p r : Nat} {Z : List Zm} {D : Dv} (h : DM w B p r Z D) : w.cell? ⟨p, 4, none⟩ = some (.int .i64 D.left) := h.cells.2.2.2.2.1
theorem DM.c5 {w : World} {B p r : Nat} {Z : List Zm} {D : Dv} (h : DM w B p r Z D) : w.cell? ⟨p, 5, none⟩ = some (.int .i64 (D.done : Nat)) := h.cells.2.2.2.2.2.1
theorem DM.c6 {w : World} {B p r : Nat} {Z : List Zm} {D : Dv} (h : DM w B p r Z D) : w.cell? ⟨p, 6, none⟩ = some (.bool D.down) := h.cells.2.2.2.2.2.2
theorem DM.z0 {w : World} {B p r : Nat} {Z : List Zm} {D : Dv} (h : DM w B p r Z D) (k : Nat) (hk : k < Z.length) : w.cell? ⟨r, k * 3, none⟩ = some (.int .i64 (Z[k].z.st : Nat)) := by
  rw [World.ownsRow.cellAt h.row _ (by have := h.len; omega)]; exact (zrow_at Z k hk).1
theorem DM.z1 {w : World} {B p r : Nat} {Z : List Zm} {D : Dv} (h : DM w B p r Z D) (k : Nat) (hk : k < Z.length) : w.cell? ⟨r, k * 3 + 1, none⟩ = some (Z[k].v) := by
  rw [World.ownsRow.cellAt h.row _ (by have := h.len; omega)]; exact (zrow_at Z k hk).2.1
theorem DM.z2 {w : World} {B p r : Nat} {Z : List Zm} {D : Dv} (h : DM w B p r Z D) (k : Nat) (hk : k < Z.length) : w.cell? ⟨r, k * 3 + 2, none⟩ = some (.int .i64 (Z[k].z.fl : Nat)) := by
  rw [World.ownsRow.cellAt h.row _ (by have := h.len; omega)]; exact (zrow_at Z k hk).2.2
theorem DM.v2 {w : World} {B p r : Nat} {Z : List Zm} {D : Dv} (h : DM w B p r Z D) (k : Nat) (hk : k < Z.length) : ∃ a c, Z[k].v = .slice a Z[k].z.b.length c ∧ Z[k].z.b.length ≤ c := by
  obtain ⟨a, c, hv, hc⟩ := (h.ent _ (List.getElem_mem hk)).reads.shape
  exact ⟨a, c, hv, hc⟩
theorem DM.zok {w : World} {B p r : Nat} {Z : List Zm} {D : Dv} (h : DM w B p r Z D) (k : Nat) (hk : k < Z.length) : ZnOk D.size Z[k].z :=
  h.ok.zs _ (by rw [← h.abs]; exact List.mem_map.2 ⟨Z[k], List.getElem_mem hk, rfl⟩)
/-- a store into the device's own block -/
theorem DM.putB {w : World} {B p r : Nat} {Z : List Zm} {D D' : Dv} (h : DM w B p r Z D) (j : Nat) (u : Value) (hs : (dvals D r).set j u = dvals D' r) (hn : D'.n = D.n) (hA : D'.A = D.A) (ok : DvOk D') : DM (w.setCell ⟨p, j, none⟩ u) B p r Z D' := by
  have hc := Chg.set w p j u
  have hb := heap_set_listz h.box j u
  rw [hs] at hb
  exact ⟨hb, by rw [hn]; exact row_same h.row fun k hk => hc.block k (World.ownsRow.lt h.row k hk).2 (fun e => h.pr (by rw [← e]; simpa [Value.ownBlock] using hk.symm)), fun x hx => (h.ent x hx).chg hc fun k hk e => (h.off x hx).1 (by rw [hk, e]), h.apart, h.off, h.pr, h.low, by rw [hA]; exact h.abs, ok⟩
/-- zone k has turned -/
theorem DM.putW {w w' : World} {B p r : Nat} {Z : List Zm} {D : Dv} (h : DM w B p r Z D) (k : Nat) (hk : k < Z.length) (y : Zm) (hr : w'.ownsRow B 70 3 (.slice (some ⟨r, 0, none⟩) D.n D.n) D.n (zrow (Z.set k y))) (hc : Chg (fun q => q = r) w w') (hOB : OB w B y.v y.z.b)
    (hf : ∀ q, y.v.ownBlock = some q → Z[k].v.ownBlock = some q ∨ ¬ fpD p r Z q) (ok : ZnOk D.size y.z) : DM w' B p r (Z.set k y) { D with A := D.A.set k y.z } := by
  have hm : ∀ x ∈ Z.set k y, x = y ∨ x ∈ Z := fun x hx => by
    rcases List.mem_or_eq_of_mem_set hx with h | h
    · exact .inr h
    · exact .inl h
  have hyp : y.v.ownBlock ≠ some p ∧ y.v.ownBlock ≠ some r := by
    refine ⟨fun e => ?_, fun e => ?_⟩
    · rcases hf p e with h1 | h1
      · exact (h.off _ (List.getElem_mem hk)).1 h1
      · exact h1 (.inl rfl)
    · rcases hf r e with h1 | h1
      · exact (h.off _ (List.getElem_mem hk)).2 h1
      · exact h1 (.inr (.inl rfl))
  refine ⟨blk_chg h.box hc h.pr, hr, ?_, ?_, ?_, h.pr, h.low, ?_, ?_⟩
  · intro x hx
    rcases hm x hx with rfl | h1
    · exact hOB.chg hc fun q hq e => hyp.2 (by rw [hq, e])
    · exact (h.ent x h1).chg hc fun q hq e => (h.off x h1).2 (by rw [hq, e])
  · intro i j' hi hj q hqi hqj
    rw [List.length_set] at hi hj
    rw [List.getElem_set] at hqi hqj
    by_cases e1 : k = i <;> by_cases e2 : k = j'
    · omega
    · rw [if_pos e1] at hqi; rw [if_neg e2] at hqj
      rcases hf q hqi with h1 | h1
      · subst e1; exact h.apart k j' hk hj q h1 hqj
      · exact (h1 (.inr (.inr ⟨_, List.getElem_mem hj, hqj⟩))).elim
    · rw [if_neg e1] at hqi; rw [if_pos e2] at hqj
      rcases hf q hqj with h1 | h1
      · subst e2; exact h.apart i k hi hk q hqi h1
      · exact (h1 (.inr (.inr ⟨_, List.getElem_mem hi, hqi⟩))).elim
    · rw [if_neg e1] at hqi; rw [if_neg e2] at hqj
      exact h.apart i j' hi hj q hqi hqj
  · intro x hx
    rcases hm x hx with rfl | h1
    · exact hyp
    · exact h.off x h1
  · rw [← h.abs, List.map_set]
  · obtain ⟨a1, a2, a3, a4, a5, a6, a7, a8, a9, a10⟩ := h.ok
    exact ⟨a1, a2, a3, a4, a5, a6, a7, a8, a9, fun z hz => by
      rcases List.mem_or_eq_of_mem_set hz with h | rfl
      · exact a10 z h
      · exact ok⟩
/-- a store into a zone -/
theorem DM.putZ {w : World} {B p r : Nat} {Z : List Zm} {D : Dv} (h : DM w B p r Z D) (k : Nat) (hk : k < Z.length) (j : Nat) (u : Value) (y : Zm) (hs : (zrow Z).set j u = zrow (Z.set k y)) (hOB : OB w B y.v y.z.b)
    (hf : ∀ q, y.v.ownBlock = some q → Z[k].v.ownBlock = some q ∨ ¬ fpD p r Z q) (ok : ZnOk D.size y.z) : DM (w.setCell ⟨r, j, none⟩ u) B p r (Z.set k y) { D with A := D.A.set k y.z } := by
  have hr := (World.ownsRow.stored h.row j u).1
  rw [hs] at hr
  exact h.putW k hk y hr (Chg.set w r j u) hOB hf ok
theorem zrow_set3 (l : List Zm) (k : Nat) (h : k < l.length) : (((zrow l).set (k * 3) (.int .i64 0)).set (k * 3 + 1) (.slice none 0 0)).set (k * 3 + 2) (.int .i64 0) = zrow (l.set k ⟨⟨0, [], 0⟩, .slice none 0 0⟩) := by
  have e0 := zrow_set0 l k h 0
  rw [show (Value.int .i64 0) = .int .i64 ((0 : Nat) : Int) from rfl, e0]
  have e1 := zrow_set1 (l.set k ⟨⟨0, l[k].z.b, l[k].z.fl⟩, l[k].v⟩) k (by simpa using h) (.slice none 0 0) []
  rw [e1]
  have e2 := zrow_set2 ((l.set k ⟨⟨0, l[k].z.b, l[k].z.fl⟩, l[k].v⟩).set k ⟨⟨(l.set k ⟨⟨0, l[k].z.b, l[k].z.fl⟩, l[k].v⟩)[k]'(by simpa using h) |>.z.st, [], (l.set k ⟨⟨0, l[k].z.b, l[k].z.fl⟩, l[k].v⟩)[k]'(by simpa using h) |>.z.fl⟩, .slice none 0 0⟩) k (by simpa using h) 0
  rw [e2]
  simp
/-- a zone is emptied -/
theorem DM.putR {w : World} {B p r : Nat} {Z : List Zm} {D : Dv} (h : DM w B p r Z D) (k : Nat) (hk : k < Z.length) :
    DM (((w.setCell ⟨r, k * 3, none⟩ (.int .i64 0)).setCell ⟨r, k * 3 + 1, none⟩ (.slice none 0 0)).setCell ⟨r, k * 3 + 2, none⟩ (.int .i64 0)) B p r (Z.set k ⟨⟨0, [], 0⟩, .slice none 0 0⟩) { D with A := D.A.set k ⟨0, [], 0⟩ } := by
  have h1 := (World.ownsRow.stored h.row (k * 3) (.int .i64 0)).1
  have h2 := (World.ownsRow.stored h1 (k * 3 + 1) (.slice none 0 0)).1
  have h3 := (World.ownsRow.stored h2 (k * 3 + 2) (.int .i64 0)).1
  rw [zrow_set3 Z k hk] at h3
  exact h.putW k hk ⟨⟨0, [], 0⟩, .slice none 0 0⟩ h3 (((Chg.set w r _ _).trans (Chg.set _ r _ _)).trans (Chg.set _ r _ _)) (OB.nil _ _) (fun q hq => by simp [Value.ownBlock] at hq) ⟨Nat.zero_le _, Nat.le_refl _, by decide⟩
theorem fpD_set {p r : Nat} {Z : List Zm} {k : Nat} {y : Zm} {q : Nat} (hk : k < Z.length) (h : fpD p r (Z.set k y) q) : fpD p r Z q ∨ y.v.ownBlock = some q := by
  rcases h with h | h | ⟨x, hx, hq⟩
  · exact .inl (.inl h)
  · exact .inl (.inr (.inl h))
  · rcases List.mem_or_eq_of_mem_set hx with h | rfl
    · exact .inl (.inr (.inr ⟨x, h, hq⟩))
    · exact .inr hq
end Go.Proofs.Ytcgjkgcafkcgoaa
