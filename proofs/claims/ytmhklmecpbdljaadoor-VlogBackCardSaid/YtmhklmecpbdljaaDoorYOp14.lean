/- Chapter 14: how the arguments of its statements are read. -/
import Derived.Test.YtmhklmecpbdljaaDoorYOpen
import Derived.Test.YtmhklmecpbdljaaDoorYVi1
namespace Go.Proofs.YtmhklmecpbdljaaDoor
open Go.ChangeShapes Go.WideShapes Go.ChangeAt Go.RowKit Go.Joins Go.Deep
set_option linter.unusedVariables false

section
variable {H : Type} {enc : TypeId × Value → H} {W : World} {spare : Nat → Bool} {held : Bool} {base : Nat}
instance : Inhabited It := ⟨⟨⟨#[]⟩, 0, 0, ⟨#[]⟩⟩⟩
theorem cells14I : Tryd.prog.cellsOf 37 = 4 := by kernel_rfl
theorem cells14K : Tryd.prog.cellsOf 27 = 3 := by kernel_rfl
theorem cells14P : Tryd.prog.cellsOf 25 = 3 := by kernel_rfl
theorem cells14S : Tryd.prog.cellsOf 9 = 1 := by kernel_rfl
theorem cells14i : Tryd.prog.cellsOf 3 = 1 := by kernel_rfl
theorem cells14B : Tryd.prog.cellsOf 23 = 1 := by kernel_rfl
theorem cells14L : Tryd.prog.cellsOf 22 = 1 := by kernel_rfl
theorem key14 {n : Nat} {v0 v1 v2 : Value} {y : DataW H × List MemPlace} (h : DataW.trod enc Tryd.prog W base spare held n 27 [v0, v1, v2] = some y) : ∃ (u : ByteArray) (s k : Int), v0 = .string u ∧ v1 = .int .i64 s ∧ v2 = .int .i64 k ∧ u.size ≤ maxLen := by
  obtain ⟨x0, x1, x2, m, hx, _, k0, k1, k2⟩ := trod_struct3 Tryd.underlying27 h
  simp only [cells14S, cells14i] at k0 k1 k2
  simp at k0 k1 k2
  obtain ⟨u, e0, _, w0⟩ := DataW.trod_string Tryd.underlying9 k0
  obtain ⟨s, e1, _, w1⟩ := DataW.trod_int Tryd.underlying3 k1
  obtain ⟨k, e2, _, w2⟩ := DataW.trod_int Tryd.underlying3 k2
  simp only [List.cons.injEq, and_true] at e0 e1 e2
  exact ⟨u, s, k, e0, e1, e2, w0⟩
theorem item14 {n : Nat} {v0 v1 v2 v3 : Value} {y : DataW H × List MemPlace} (h : DataW.trod enc Tryd.prog W base spare held n 37 [v0, v1, v2, v3] = some y) : ∃ x : It, v0 = .string x.u ∧ v1 = .int .i64 x.s ∧ v2 = .int .i64 x.k ∧ v3 = .string x.v ∧ ItOk x := by
  obtain ⟨x0, x1, m, hx, _, k0, k1⟩ := trod_struct2 Tryd.underlying37 h
  simp only [cells14K, cells14S] at k0 k1
  simp at k0 k1
  obtain ⟨u, s, k, rfl, rfl, rfl, hu⟩ := key14 k0
  obtain ⟨v, e0, _, w0⟩ := DataW.trod_string Tryd.underlying9 k1
  simp only [List.cons.injEq, and_true] at e0
  exact ⟨⟨u, s, k, v⟩, rfl, rfl, rfl, e0, hu, w0⟩
theorem list4 {α : Type} {l : List α} (h : l.length = 4) : ∃ a b c d, l = [a, b, c, d] := by
  match l, h with
  | [a, b, c, d], _ => exact ⟨a, b, c, d, rfl⟩
set_option maxRecDepth 100000 in
theorem its_val {n0 : Nat} {v : Value} {y : DataW H × List MemPlace} (h : DataW.trod enc Tryd.prog W base spare held n0 22 [v] = some y) :
    ∃ a l cap, v = .slice a (l : List It).length cap ∧ VIs W a l ∧ l.length ≤ maxLen ∧ l.length ≤ cap := by
  rcases open_slice Tryd.underlying22 h with ⟨hcs, _⟩ | ⟨x, len, cap, m, n, D, Pl, hcs, hb, hl, hm, hmm, hx, hi⟩
  · simp only [List.cons.injEq, and_true] at hcs
    subst hcs
    exact ⟨none, [], 0, rfl, ⟨fun h => by simp at h, fun x hx => by simp at hx⟩, by simp, by simp⟩
  · simp only [List.cons.injEq, and_true] at hcs
    subst hcs
    have hlm : len ≤ m := by rw [hmm]; split <;> omega
    obtain ⟨f, hF⟩ := choose_lt (α := It) (n := len) (p := fun i q => ItOk q ∧ W.cell? (x.add (i * 4 + 0)) = some (.string q.u) ∧ W.cell? (x.add (i * 4 + 1)) = some (.int .i64 q.s) ∧ W.cell? (x.add (i * 4 + 2)) = some (.int .i64 q.k) ∧ W.cell? (x.add (i * 4 + 3)) = some (.string q.v)) (fun i hi' => by
      obtain ⟨cs', hc, ht⟩ := hi i (by omega)
      rw [cells14I] at hc
      obtain ⟨_, hcl, hat⟩ := World.cells?_some hc
      obtain ⟨a0, a1, a2, a3, rfl⟩ := list4 hcl
      obtain ⟨q, rfl, rfl, rfl, rfl, hok⟩ := item14 ht
      refine ⟨q, hok, ?_, ?_, ?_, ?_⟩
      · rw [← Go.Deep.add_add]; exact hat 0 (by decide)
      · rw [← Go.Deep.add_add]; exact hat 1 (by decide)
      · rw [← Go.Deep.add_add]; exact hat 2 (by decide)
      · rw [← Go.Deep.add_add]; exact hat 3 (by decide))
    refine ⟨some x, (List.range len).map f, cap, by simp, ⟨fun hp => ?_, fun y hy => ?_⟩, by simp; omega, by simp; omega⟩
    · simp at hp
      obtain ⟨b, off, spot⟩ := x
      have hc0 := (hF 0 hp).2.1
      have hspot : spot = none := by simpa [Addr.add] using World.cell?_spot hc0
      subst hspot
      refine ⟨b, off, rfl, fun j hj => ?_⟩
      simp at hj
      obtain ⟨_, q0, q1, q2, q3⟩ := hF j hj
      rw [add_none] at q0 q1 q2 q3
      simp only [List.getElem_map, List.getElem_range]
      exact ⟨q0, by rw [Nat.add_assoc]; exact q1, by rw [Nat.add_assoc]; exact q2, by rw [Nat.add_assoc]; exact q3⟩
    · obtain ⟨i, hi', rfl⟩ := List.mem_map.1 hy
      exact (hF i (by simpa using hi')).1
theorem its_open {a : Option Addr} {len cap : Nat} {d : DataW H} {p : List MemPlace} (h : DataW.Trod enc Tryd.prog W base spare held 22 (.slice a len cap) d p) :
    ∃ l : List It, len = l.length ∧ VIs W a l ∧ (l.length ≤ maxLen ∧ l.length ≤ cap) := by
  obtain ⟨fuel, hf⟩ := h
  have hf2 : DataW.trod enc Tryd.prog W base spare held fuel 22 [.slice a len cap] = some (d, p) := by simpa [Value.cells] using hf
  obtain ⟨a', l, cap', e, h1, h2, h3⟩ := its_val hf2
  simp only [Value.slice.injEq] at e
  obtain ⟨rfl, rfl, rfl⟩ := e
  exact ⟨l, rfl, h1, h2, h3⟩
theorem bytes14 {n : Nat} {v : Value} {y : DataW H × List MemPlace} (h : DataW.trod enc Tryd.prog W base spare held n 23 [v] = some y) : ∃ a l c, v = .slice a (l : List UInt8).length c ∧ RB W (.slice a l.length c) l ∧ l.length ≤ maxLen := by
  obtain ⟨l, hr, hm⟩ := rb_val h
  obtain ⟨ao, c, e, _⟩ := hr.shape
  rw [e] at hr
  exact ⟨ao, l, c, e, hr, hm⟩
theorem array8 {α : Type} {cs : Array α} (h : cs.size = 8) : ∃ c0 c1 c2 c3 c4 c5 c6 c7, cs = #[c0, c1, c2, c3, c4, c5, c6, c7] := by
  obtain ⟨l⟩ := cs
  match l, h with
  | [c0, c1, c2, c3, c4, c5, c6, c7], _ => exact ⟨c0, c1, c2, c3, c4, c5, c6, c7, rfl⟩
theorem cells14R : Tryd.prog.cellsOf 29 = 8 := by kernel_rfl
set_option maxRecDepth 100000 in
theorem reading_open {r : Reach} {b0 : Nat} {v : Value} {d : DataW H} {p : List MemPlace} (hv : Value.okWide Tryd.prog W r b0 29 v) (h : DataW.Trod enc Tryd.prog W base spare held 29 v d p) :
    ∃ (a : Option Addr) (l : List It) (cap : Nat) (ra : Option Addr) (R : List UInt8) (rc : Nat) (z at' n : Int) (u : ByteArray) (s k : Int), v = .agg #[.slice a l.length cap, .slice ra R.length rc, .int .i64 z, .int .i64 at', .int .i64 n, .string u, .int .i64 s, .int .i64 k] ∧ VIs W a l ∧ l.length ≤ maxLen ∧ RB W (.slice ra R.length rc) R ∧ R.length ≤ maxLen ∧ u.size ≤ maxLen := by
  obtain ⟨cs, rfl, hsz⟩ := okWide_struct Tryd.underlying29 hv
  obtain ⟨c0, c1, c2, c3, c4, c5, c6, c7, rfl⟩ := array8 (hsz.trans cells14R)
  obtain ⟨fuel, hf⟩ := h
  obtain ⟨y0, y1, y2, y3, n, hx, _, h0, h1, h2, h3⟩ := trod_struct4 Tryd.underlying29 hf
  simp only [Value.cells, cells14L, cells14B, cells14P, cells14K] at h0 h1 h2 h3
  simp at h0 h1 h2 h3
  obtain ⟨a, l, cap, rfl, hi, hl, _⟩ := its_val h0
  obtain ⟨ra, R, rc, rfl, hr, hrm⟩ := bytes14 h1
  obtain ⟨x0, x1, x2, m, hx2, _, k0, k1, k2⟩ := trod_struct3 Tryd.underlying25 h2
  simp only [cells14i] at k0 k1 k2
  simp at k0 k1 k2
  obtain ⟨g0, e0, _, w0⟩ := DataW.trod_int Tryd.underlying3 k0
  obtain ⟨g1, e1, _, w1⟩ := DataW.trod_int Tryd.underlying3 k1
  obtain ⟨g2, e2, _, w2⟩ := DataW.trod_int Tryd.underlying3 k2
  obtain ⟨u, s, k, rfl, rfl, rfl, hu⟩ := key14 h3
  simp only [List.cons.injEq, and_true] at e0 e1 e2
  subst e0 e1 e2
  exact ⟨a, l, cap, ra, R, rc, g0, g1, g2, u, s, k, rfl, hi, hl, hr, hrm, hu⟩
end
end Go.Proofs.YtmhklmecpbdljaaDoor
