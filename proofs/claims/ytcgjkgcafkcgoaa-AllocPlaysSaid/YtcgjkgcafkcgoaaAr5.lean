/- AllocPlays: the document's table beside the program's: what the walk reads and stores. -/
import Derived.Test.YtcgjkgcafkcgoaaAr3
namespace Go.Proofs.Ytcgjkgcafkcgoaa
open Go.RowKit
set_option linter.unusedVariables false
set_option linter.unusedSimpArgs false

section
variable {w0 w w' w2 : World} {p d x g qb N n : Nat} {xk xz xn : Int} {R Q : List Int} {D : Dv} {R2 Q2 : List Int} {hs : List Bool} {v v2 : Value}
theorem PJ.look (h : PJ w0 w p d x g qb xk xz xn R Q D R2 Q2) : ∃ v, w.cell? ⟨x, 0, none⟩ = some (.slice (some ⟨g, 0, none⟩) R2.length R2.length) ∧ w.cell? ⟨x, 1, none⟩ = some v ∧ w.frozen? ⟨x, 0, none⟩ = false ∧ w.frozen? ⟨x, 1, none⟩ = false ∧ OR w w0.heap.size v Q2 ∧ R2.length ≤ 64 := by
  obtain ⟨H, F, hA, ⟨v, hT, hF⟩, hd, h1, h2, hc, hb⟩ := h
  obtain ⟨k0, k1, f0, f1⟩ := cell_pair hT.box
  exact ⟨v, k0, k1, f0, f1, hT.q, hT.rl⟩
theorem PJ.cellR (h : PJ w0 w p d x g qb xk xz xn R Q D R2 Q2) (j : Nat) (hj : j < R2.length) : w.cell? ⟨g, j, none⟩ = some (.int .i64 R2[j]) ∧ w.frozen? ⟨g, j, none⟩ = false := by
  obtain ⟨H, F, hA, ⟨v, hT, hF⟩, hd, h1, h2, hc, hb⟩ := h
  exact ⟨hT.cell j hj, hT.fz j⟩
theorem PJ.setR (h : PJ w0 w p d x g qb xk xz xn R Q D R2 Q2) (j : Nat) (y : Int) : PJ w0 (w.setCell ⟨g, j, none⟩ (.int .i64 y)) p d x g qb xk xz xn R Q D (R2.set j y) Q2 := by
  obtain ⟨H, F, hA, hX, hd, h1, h2, hc, hb⟩ := h
  have hX' := hX
  obtain ⟨v, hT, hF⟩ := hX
  exact PJ.ref hA hX' hd h1 h2 hc hb (XT.turn hT hF (hT.set j y) ((Chg.set w g j _).mono fun k e => .inr (.inl e)) fun k hk => .inl hk)
theorem PJ.setR_keeps (h : PJ w0 w p d x g qb xk xz xn R Q D R2 Q2) (hv : w.cell? ⟨x, 1, none⟩ = some v) (j : Nat) (y : Int) : (∀ i, (w.setCell ⟨g, j, none⟩ (.int .i64 y)).cell? ⟨x, i, none⟩ = w.cell? ⟨x, i, none⟩) ∧ (w.setCell ⟨g, j, none⟩ (.int .i64 y)).frozen? ⟨x, 1, none⟩ = false ∧ ∀ k, v.ownBlock = some k → ∀ i, (w.setCell ⟨g, j, none⟩ (.int .i64 y)).cell? ⟨k, i, none⟩ = w.cell? ⟨k, i, none⟩ := by
  obtain ⟨H, F, hA, ⟨v', hT, hF⟩, hd, h1, h2, hc, hb⟩ := h
  obtain ⟨k0, k1, f0, f1⟩ := cell_pair hT.box
  obtain rfl : v = v' := by rw [hv] at k1; exact Option.some.inj k1
  obtain ⟨m0, m1, g0, g1⟩ := cell_pair (hT.set j y).box
  refine ⟨fun i => World.cell?_of_block ((Chg.set w g j _).block x (hT.lt x (.inl rfl)).2 (fun e => hT.ne e.symm)), g1, fun k hk i => World.cell?_of_block ((Chg.set w g j _).block k (hT.lt k (.inr (.inr hk))).2 (fun e => hT.vg (by rw [hk, e])))⟩
theorem PJ.setQ (h : PJ w0 w p d x g qb xk xz xn R Q D R2 Q2) (hv : w.cell? ⟨x, 1, none⟩ = some v) {Q3 : List Int} (ho : OR w w0.heap.size v2 Q3) (hl : ∀ k, v2.ownBlock = some k → v.ownBlock = some k) : PJ w0 (w.setCell ⟨x, 1, none⟩ v2) p d x g qb xk xz xn R Q D R2 Q3 := by
  obtain ⟨H, F, hA, hX, hd, h1, h2, hc, hb⟩ := h
  have hX' := hX
  obtain ⟨v', hT, hF⟩ := hX
  obtain ⟨k0, k1, f0, f1⟩ := cell_pair hT.box
  obtain rfl : v = v' := by rw [hv] at k1; exact Option.some.inj k1
  exact PJ.ref hA hX' hd h1 h2 hc hb (XT.turn hT hF (hT.putQ ho fun k hk => .inl (hl k hk)) ((Chg.set w x 1 _).mono fun k e => .inl e) fun k hk => .inl (hl k hk))
theorem PJ.appQ (h : PJ w0 w p d x g qb xk xz xn R Q D R2 Q2) (hv : w.cell? ⟨x, 1, none⟩ = some v) (ho : OR w2 w0.heap.size v2 (Q2 ++ [(n : Int)])) (hc2 : Chg (fun k => v.ownBlock = some k) w w2) (hl : v2.ownBlock = v.ownBlock ∨ ∃ q, v2.ownBlock = some q ∧ w.heap.size ≤ q) :
    (∃ u, w2.cell? ⟨x, 1, none⟩ = some u) ∧ w2.frozen? ⟨x, 1, none⟩ = false ∧ PJ w0 (w2.setCell ⟨x, 1, none⟩ v2) p d x g qb xk xz xn R Q D R2 (Q2 ++ [(n : Int)]) := by
  obtain ⟨H, F, hA, hX, hd, h1, h2, hc, hb⟩ := h
  have hX' := hX
  obtain ⟨v', hT, hF⟩ := hX
  obtain ⟨k0, k1, f0, f1⟩ := cell_pair hT.box
  obtain rfl : v = v' := by rw [hv] at k1; exact Option.some.inj k1
  obtain ⟨g1, g2, g3, g4⟩ := hT.app ho hc2 hl
  have hbx := hT.box
  rw [← g1] at hbx
  obtain ⟨m0, m1, n0, n1⟩ := cell_pair hbx
  exact ⟨⟨_, m1⟩, n1, PJ.ref hA hX' hd h1 h2 hc hb (XT.turn hT hF g2 g3 g4)⟩
theorem PJ.rl (h : PJ w0 w p d x g qb xk xz xn R Q D R2 Q2) : R.length ≤ 64 ∧ D.A.length = D.n ∧ w0.heap.size ≤ w.heap.size := by
  obtain ⟨H, F, hA, hX, hd, h1, h2, hc, hb⟩ := h
  exact ⟨hA.rl, hA.lenA, hb.size⟩
/-- a call of the program's table that turns nothing -/
theorem PJ.callS {f : FuncId} {args : Array Value} {u : Value} (h : PJ w0 w p d x g qb xk xz xn R Q D R2 Q2) (hc : ∀ H, AT w w0.heap.size p d H R Q D → Calls Try.prog f args w fun e w' => e = .returned u ∧ w = w') : Calls Try.prog f args w fun e w' => e = .returned u ∧ w = w' := by
  obtain ⟨H, F, hA, hX, hd, h1, h2, hcs, hb0⟩ := h
  exact hc H hA
/-- Reset: either the first of the queue is reset, or the power is away -/
theorem PJ.reset (h : PJ w0 w p d x g qb xk xz xn R ((n : Int) :: Q) D R2 Q2) (hI : AInv N R hs ((n : Int) :: Q)) (hn : n < R.length) (h6 : R[n] = 6) (hD : DN D N 120) :
    ((zrst D n).1.down = false ∧ zst (zrst D n).1 n = 0 ∧ AInv N (R.set n 0) (hs.set n false) Q ∧ Calls Try.prog 18 #[.pointer (some ⟨p, 0, none⟩), .pointer (some ⟨d, 0, none⟩)] w fun e w' => e = .returned (.tuple #[.int .i64 n, .int .i64 0]) ∧ PJ w0 w' p d x g qb xk xz xn (R.set n 0) Q (zrst D n).1 R2 Q2) ∨
    ((zrst D n).1.down = true ∧ Calls Try.prog 18 #[.pointer (some ⟨p, 0, none⟩), .pointer (some ⟨d, 0, none⟩)] w fun e w' => e = .returned (.tuple #[.int .i64 0, .int .i64 74]) ∧ PJ w0 w' p d x g qb xk xz xn R ((n : Int) :: Q) (zrst D n).1 R2 Q2) := by
  obtain ⟨hrl, hlA, _⟩ := h.rl
  have hnD : n < D.n := by rw [hD.1, ← hI.len]; exact hn
  have hdn : D.done < 4611686018427387904 := by have := hD.2; omega
  rcases zrst_law (D := D) hnD (by rw [hlA]; exact hnD) with ⟨e0, ed, ez⟩ | ⟨e0, ed⟩
  · refine .inl ⟨ed, ez, hI.reset hn h6, h.callA fun H hA => ?_⟩
    refine (hA.reset hn hdn).mono fun e w' hh => ?_
    rcases hh with ⟨hne, _⟩ | ⟨_, a, b⟩
    · exact absurd e0 hne
    · exact ⟨a, b⟩
  · refine .inr ⟨ed, h.callA fun H hA => ?_⟩
    refine (hA.reset hn hdn).mono fun e w' hh => ?_
    rcases hh with ⟨_, a, b⟩ | ⟨hz, _⟩
    · rw [e0] at a; exact ⟨a, b⟩
    · rw [e0] at hz; cases hz
theorem rbq_none {R Q : List Int} {D : Dv} {z : Nat} (h : rbl D (places R 0 (z + 1)) = rbl D (places R 0 z)) : rbq D Q (places R 0 (z + 1)) = rbq D Q (places R 0 z) := by unfold rbq; rw [h]
theorem rbq_more {R Q : List Int} {D : Dv} {z : Nat} (h : rbl D (places R 0 (z + 1)) = rbl D (places R 0 z) ++ [z]) : rbq D Q (places R 0 (z + 1)) = rbq D Q (places R 0 z) ++ [(z : Int)] := by unfold rbq; rw [h]; simp
theorem rbl_len {R : List Int} {D : Dv} {z : Nat} : (rbl D (places R 0 z)).length ≤ z := by
  unfold rbl
  exact Nat.le_trans (List.length_filter_le _ _) (places_le R 0 z)
end
theorem rb_zero (R Q : List Int) (D : Dv) : (rbl D (places R 0 0)).length = 0 ∧ setAll R (rbl D (places R 0 0)) = R ∧ rbq D Q (places R 0 0) = Q := by
  have e : places R 0 0 = [] := by simp [places]
  unfold rbq
  rw [e]
  exact ⟨rfl, rfl, by simp [rbl]⟩
theorem PI.below {w0 w w' : World} {p d x g N k : Nat} (h : PI w0 w p d x g N k) (hb : Below w.heap.size w w') : PI w0 w' p d x g N k := by
  obtain ⟨H, F, R, hs, Q, D, hA, hX, hd, hI, hDN, hb0⟩ := h
  exact ⟨H, F, R, hs, Q, D, hA.below hb, hX.below hb, hd, hI, hDN, hb0.trans (hb.mono hb0.size)⟩
theorem row_kzm {w : World} {B : Nat} {a : Option Addr} {c : Nat} {Q : List Int} (h : w.ownsRow B 3 1 (.slice a Q.length c) Q.length (ivs Q)) : KZ w a Q := fun hp => by
  rcases h.2 with ⟨e1, _⟩ | ⟨x, cap, cur, e1, _⟩
  · simp only [Value.slice.injEq] at e1; have := e1.2.1; omega
  · simp only [Value.slice.injEq] at e1
    obtain ⟨rfl, _, rfl⟩ := e1
    refine ⟨x, 0, rfl, fun i hi => ?_⟩
    rw [Nat.zero_add, World.ownsRow.cellAt h i (by omega)]
    simp [ivs, hi]
theorem al_intsn {w : World} {B B2 : Nat} {a b : Option Addr} {ca cb : Nat} {L : List Nat} (h1 : w.ownsRow B 3 1 (.slice a L.length ca) L.length (nvs L)) (h2 : w.ownsRow B2 3 1 (.slice b L.length cb) L.length (nvs L)) (hl : L.length ≤ 1000000) :
    Calls Try.prog 16 #[.slice a L.length ca, .slice b L.length cb] w fun e w' => e = .returned (.bool true) ∧ Below w.heap.size w w' := by
  have e : nvs L = ivs (L.map fun (z : Nat) => (z : Int)) := by simp [nvs, ivs]
  have el : (L.map fun (z : Nat) => (z : Int)).length = L.length := List.length_map ..
  rw [e, ← el] at h1 h2
  have := al_ints (ca := ca) (cb := cb) (row_kzm h1) (row_kzm h2) rfl (by rw [el]; exact hl)
  rw [el] at this
  exact this
end Go.Proofs.Ytcgjkgcafkcgoaa
