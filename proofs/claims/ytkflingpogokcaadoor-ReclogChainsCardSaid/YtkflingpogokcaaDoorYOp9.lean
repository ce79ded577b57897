/- Chapter 09: how the structs of its statements are read. -/
import Derived.Test.YtkflingpogokcaaDoorYOpen
import Derived.Test.YtkflingpogokcaaDoorYCap9
namespace Go.Proofs.YtkflingpogokcaaDoor
open Go.ChangeShapes Go.WideShapes Go.ChangeAt Go.RowKit Go.Joins Go.Deep
set_option linter.unusedVariables false

section
variable {H : Type} {enc : TypeId × Value → H} {W : World} {spare : Nat → Bool} {held : Bool} {base : Nat}
theorem bvals9 {n : Nat} {v : Value} {y : DataW H × List MemPlace} (h : DataW.trod enc Tryd.prog W base spare held n 25 [v] = some y) : ∃ a l c, v = .slice a (l : List (Value × List UInt8)).length c ∧ BSs W a l ∧ l.length ≤ maxLen ∧ l.length ≤ c := by
  have key : ∀ a len cap, v = .slice a len cap → ∃ a l c, v = .slice a (l : List (Value × List UInt8)).length c ∧ BSs W a l ∧ l.length ≤ maxLen ∧ l.length ≤ c := fun a len cap e => by
    subst e
    have h2 : DataW.Trod enc Tryd.prog W base spare held 25 (.slice a len cap) y.1 y.2 := ⟨n, by simpa [Value.cells] using h⟩
    obtain ⟨l, rfl, hr, hm⟩ := bytess_open_cap h2
    exact ⟨a, l, cap, rfl, hr, hm⟩
  rcases DataW.trod_slice Tryd.underlying25 h with ⟨h1, _⟩ | ⟨a, len, cap, elems, rest, m, _, h1, _⟩
  · simp only [List.cons.injEq, and_true] at h1
    exact key _ _ _ h1
  · simp only [List.cons.injEq, and_true] at h1
    exact key _ _ _ h1
theorem ivals9 {n : Nat} {v : Value} {y : DataW H × List MemPlace} (h : DataW.trod enc Tryd.prog W base spare held n 33 [v] = some y) : ∃ a l c, v = .slice a (l : List Int).length c ∧ IR W a l ∧ l.length ≤ maxLen := by
  have key : ∀ a len cap, v = .slice a len cap → ∃ a l c, v = .slice a (l : List Int).length c ∧ IR W a l ∧ l.length ≤ maxLen := fun a len cap e => by
    subst e
    have h2 : DataW.Trod enc Tryd.prog W base spare held 33 (.slice a len cap) y.1 y.2 := ⟨n, by simpa [Value.cells] using h⟩
    obtain ⟨l, rfl, hr, hm⟩ := ints_open h2
    exact ⟨a, l, cap, rfl, hr, hm⟩
  rcases DataW.trod_slice Tryd.underlying33 h with ⟨h1, _⟩ | ⟨a, len, cap, elems, rest, m, _, h1, _⟩
  · simp only [List.cons.injEq, and_true] at h1
    exact key _ _ _ h1
  · simp only [List.cons.injEq, and_true] at h1
    exact key _ _ _ h1
theorem cellsPl : Tryd.prog.cellsOf 36 = 4 := by kernel_rfl
set_option maxRecDepth 100000 in
theorem placed_open {r : Reach} {b0 : Nat} {v : Value} {d : DataW H} {p : List MemPlace} (hv : Value.okWide Tryd.prog W r b0 36 v) (h : DataW.Trod enc Tryd.prog W base spare held 36 v d p) :
    ∃ (a : Option Addr) (l : List (Value × List UInt8)) (cap : Nat) (z at' n : Int), v = .agg #[.slice a l.length cap, .int .i64 z, .int .i64 at', .int .i64 n] ∧ BSs W a l ∧ l.length ≤ maxLen ∧ (-9223372036854775808 ≤ z ∧ z ≤ 9223372036854775807) ∧ (-9223372036854775808 ≤ at' ∧ at' ≤ 9223372036854775807) ∧ (-9223372036854775808 ≤ n ∧ n ≤ 9223372036854775807) := by
  obtain ⟨v0, v1, v2, v3, y0, y1, y2, y3, n, rfl, _, _, e, f, g, i⟩ := open_agg4 Tryd.underlying36 (by kernel_rfl) cellsPl hv h
  obtain ⟨a, l, cap, rfl, ho, hl, _⟩ := bvals9 e
  obtain ⟨n1, e1, _, w1⟩ := DataW.trod_int Tryd.underlying3 f
  obtain ⟨n2, e2, _, w2⟩ := DataW.trod_int Tryd.underlying3 g
  obtain ⟨n3, e3, _, w3⟩ := DataW.trod_int Tryd.underlying3 i
  simp only [List.cons.injEq, and_true] at e1 e2 e3
  subst e1 e2 e3
  exact ⟨a, l, cap, n1, n2, n3, rfl, ho, hl, bounds_i64 w1, bounds_i64 w2, bounds_i64 w3⟩
theorem array6 {α : Type} {cs : Array α} (h : cs.size = 6) : ∃ c0 c1 c2 c3 c4 c5, cs = #[c0, c1, c2, c3, c4, c5] := by
  obtain ⟨l⟩ := cs
  match l, h with
  | [c0, c1, c2, c3, c4, c5], _ => exact ⟨c0, c1, c2, c3, c4, c5, rfl⟩
theorem cellsCh : Tryd.prog.cellsOf 50 = 6 := by kernel_rfl
theorem cellsGe : Tryd.prog.cellsOf 40 = 3 := by kernel_rfl
theorem cellsI : Tryd.prog.cellsOf 3 = 1 := by kernel_rfl
theorem cellsIs : Tryd.prog.cellsOf 33 = 1 := by kernel_rfl
theorem cellsBs : Tryd.prog.cellsOf 25 = 1 := by kernel_rfl
set_option maxRecDepth 100000 in
theorem chain_open {r : Reach} {b0 : Nat} {v : Value} {d : DataW H} {p : List MemPlace} (hv : Value.okWide Tryd.prog W r b0 50 v) (h : DataW.Trod enc Tryd.prog W base spare held 50 v d p) :
    ∃ (gz gs go : Int) (a : Option Addr) (l : List (Value × List UInt8)) (cap : Nat) (fl : Int) (ka : Option Addr) (K : List Int) (kc : Nat), v = .agg #[.int .i64 gz, .int .i64 gs, .int .i64 go, .slice a l.length cap, .int .i64 fl, .slice ka K.length kc] ∧ BSs W a l ∧ l.length ≤ maxLen ∧ l.length ≤ cap ∧ IR W ka K ∧ K.length ≤ maxLen ∧ (-9223372036854775808 ≤ gz ∧ gz ≤ 9223372036854775807) ∧ (-9223372036854775808 ≤ gs ∧ gs ≤ 9223372036854775807) ∧ (-9223372036854775808 ≤ go ∧ go ≤ 9223372036854775807) ∧ (-9223372036854775808 ≤ fl ∧ fl ≤ 9223372036854775807) := by
  obtain ⟨cs, rfl, hsz⟩ := okWide_struct Tryd.underlying50 hv
  obtain ⟨c0, c1, c2, c3, c4, c5, rfl⟩ := array6 (hsz.trans cellsCh)
  obtain ⟨fuel, hf⟩ := h
  obtain ⟨y0, y1, y2, y3, n, hx, _, h0, h1, h2, h3⟩ := trod_struct4 Tryd.underlying50 hf
  simp only [Value.cells, cellsGe, cellsI, cellsIs, cellsBs] at h0 h1 h2 h3
  obtain ⟨x0, x1, x2, m, hx2, _, k0, k1, k2⟩ := trod_struct3 Tryd.underlying40 h0
  simp only [cellsI] at k0 k1 k2
  simp at k0 k1 k2 h1 h2 h3
  obtain ⟨g0, e0, _, w0⟩ := DataW.trod_int Tryd.underlying3 k0
  obtain ⟨g1, e1, _, w1⟩ := DataW.trod_int Tryd.underlying3 k1
  obtain ⟨g2, e2, _, w2⟩ := DataW.trod_int Tryd.underlying3 k2
  obtain ⟨a, l, cap, e3, ho, hl, hlc⟩ := bvals9 h1
  obtain ⟨f0, e4, _, w4⟩ := DataW.trod_int Tryd.underlying3 h2
  obtain ⟨ka, K, kc, e5, hk, hkl⟩ := ivals9 h3
  simp only [List.cons.injEq, and_true] at e0 e1 e2 e4
  subst e0 e1 e2 e3 e4 e5
  exact ⟨g0, g1, g2, a, l, cap, f0, ka, K, kc, rfl, ho, hl, hlc, hk, hkl, bounds_i64 w0, bounds_i64 w1, bounds_i64 w2, bounds_i64 w4⟩
end
end Go.Proofs.YtkflingpogokcaaDoor
