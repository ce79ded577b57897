/- A device of zones: its contracts. -/
import Derived.Test.YtcgjkgcafkcgoaaZe
import Derived.Test.YtcgjkgcafkcgoaaZj
import Derived.Test.YtcgjkgcafkcgoaaZk
namespace Go.Proofs.Ytcgjkgcafkcgoaa
open Go.RowKit
set_option linter.unusedVariables false
set_option linter.unusedSimpArgs false

/-- at block p lies a device, in the blocks F -/
def DI (w : World) (B p : Nat) (F : Nat → Prop) (D : Dv) : Prop := ∃ r Z, (∀ k, F k ↔ fpD p r Z k) ∧ DM w B p r Z D
/-- what a call leaves -/
def DOut (w : World) (B p : Nat) (F : Nat → Prop) (D' : Dv) (w' : World) : Prop := (∃ F', DI w' B p F' D' ∧ ∀ k, F' k → F k ∨ w.heap.size ≤ k) ∧ Chg F w w'
section
variable {w w' : World} {B p : Nat} {F : Nat → Prop} {D D' : Dv}
theorem DI.ok (h : DI w B p F D) : DvOk D := by obtain ⟨r, Z, _, hD⟩ := h; exact hD.ok
theorem DI.lenA (h : DI w B p F D) : D.A.length = D.n := by obtain ⟨r, Z, _, hD⟩ := h; exact hD.lenA
theorem DI.ge (h : DI w B p F D) : ∀ k, F k → B ≤ k ∧ k < w.heap.size := by
  obtain ⟨r, Z, hF, hD⟩ := h
  exact fun k hk => ⟨hD.ge k ((hF k).1 hk), hD.lt k ((hF k).1 hk)⟩
theorem DI.room (h : DI w B p F D) : B ≤ w.heap.size := by
  obtain ⟨r, Z, hF, hD⟩ := h
  have := hD.low; have := blk_lt hD.box; omega
theorem DI.chg {G : Nat → Prop} (h : DI w B p F D) (hc : Chg G w w') (hd : ∀ k, F k → ¬ G k) : DI w' B p F D := by
  obtain ⟨r, Z, hF, hD⟩ := h
  exact ⟨r, Z, hF, hD.chg hc fun k hk => hd k ((hF k).2 hk)⟩
theorem DI.below (h : DI w B p F D) (hb : Below w.heap.size w w') : DI w' B p F D := h.chg (G := fun _ => False) (Chg.of_below hb) fun _ _ h => h
theorem DOut.of {r : Nat} {Z : List Zm} (hF : ∀ k, F k ↔ fpD p r Z k) (h : AppOut w B p r Z D' w') : DOut w B p F D' w' := by
  obtain ⟨⟨Z', hD, hf⟩, hc⟩ := h
  exact ⟨⟨fpD p r Z', ⟨r, Z', fun k => Iff.rfl, hD⟩, fun k hk => by
    rcases hf k hk with h | h
    · exact .inl ((hF k).2 h)
    · exact .inr h⟩, hc.mono fun k hk => (hF k).2 hk⟩
theorem DOut.below (h : DOut w B p F D' w') (hD : DI w B p F D) : Below B w w' := h.2.below (fun k hk => (hD.ge k hk).1) hD.room
theorem DI.new (w : World) (n s o : Nat) (hg : gchk n s o = true) : Calls Try.prog 32 #[.agg #[.int .i64 n, .int .i64 s, .int .i64 o]] w fun e w' => ∃ p F, e = .returned (.pointer (some ⟨p, 0, none⟩)) ∧ DI w' w.heap.size p F (dv0 n s o) ∧ Below w.heap.size w w' :=
  (znew w n s o hg).mono fun e w' ⟨p, r, h1, h2, h3⟩ => ⟨p, fpD p r (zm0 n), h1, ⟨r, _, fun k => Iff.rfl, h2⟩, h3⟩
theorem DI.append {er : Int} (h : DI w B p F D) (hdn : D.done < 4611686018427387904) (z : Int) {m : List UInt8} {ao : Option Addr} {n c : Nat} (hr : RB w (.slice ao n c) m) (hml : m.length ≤ 1000000) (e0 : zapp D z m = (D', er)) :
    Calls Try.prog 19 #[.pointer (some ⟨p, 0, none⟩), .int .i64 z, .slice ao n c] w fun e w' => e = .returned (.int .i64 er) ∧ DOut w B p F D' w' := by
  obtain ⟨r, Z, hF, hD⟩ := h
  have hn := hr.len
  subst hn
  refine (zappend hD hdn z hr hml).mono ?_
  rintro e w' ⟨rfl, h2⟩
  rw [e0] at h2 ⊢
  exact ⟨rfl, DOut.of hF h2⟩
theorem DI.reset {er : Int} (h : DI w B p F D) (hdn : D.done < 4611686018427387904) (z : Int) (e0 : zrst D z = (D', er)) :
    Calls Try.prog 34 #[.pointer (some ⟨p, 0, none⟩), .int .i64 z] w fun e w' => e = .returned (.int .i64 er) ∧ DOut w B p F D' w' := by
  obtain ⟨r, Z, hF, hD⟩ := h
  refine (zreset hD hdn z).mono ?_
  rintro e w' ⟨rfl, h2⟩
  rw [e0] at h2 ⊢
  exact ⟨rfl, DOut.of hF h2⟩
theorem DI.crash (h : DI w B p F D) {ak : Option Addr} {n ck : Nat} {keep : List Int} (hk : KZ w ak keep) (hn : n = keep.length) (hkl : keep.length ≤ 9223372036854775807) (hfar : 0 < keep.length → ∀ b off, ak = some ⟨b, off, none⟩ → ¬ F b) (e0 : zcrs D keep = D') :
    Calls Try.prog 28 #[.pointer (some ⟨p, 0, none⟩), .slice ak n ck] w fun e w' => e = .returned (.tuple #[]) ∧ DOut w B p F D' w' := by
  obtain ⟨r, Z, hF, hD⟩ := h
  subst hn
  refine (zcrash hD hk hkl fun hp b off e hb => hfar hp b off e ((hF b).2 hb)).mono ?_
  rintro e w' ⟨rfl, h2⟩
  rw [e0] at h2
  exact ⟨rfl, DOut.of hF h2⟩
theorem DI.arm (h : DI w B p F D) (n : Int) (hn : -9223372036854775808 ≤ n ∧ n ≤ 9223372036854775807) :
    Calls Try.prog 27 #[.pointer (some ⟨p, 0, none⟩), .int .i64 n] w fun e w' => e = .returned (.tuple #[]) ∧ DOut w B p F (zarmd D n) w' := by
  obtain ⟨r, Z, hF, hD⟩ := h
  refine (zarm hD n hn).mono ?_
  rintro e w' ⟨rfl, h2, h3⟩
  exact ⟨rfl, DOut.of hF ⟨⟨Z, h2, fun k hk => .inl hk⟩, h3.mono fun k e => .inl e⟩⟩
theorem DI.state (h : DI w B p F D) (z : Int) : Calls Try.prog 21 #[.pointer (some ⟨p, 0, none⟩), .int .i64 z] w fun e w' => e = .returned (.int .i64 (zst D z)) ∧ w = w' := by
  obtain ⟨r, Z, hF, hD⟩ := h
  exact zstate hD z
theorem DI.opened (h : DI w B p F D) : Calls Try.prog 37 #[.pointer (some ⟨p, 0, none⟩)] w fun e w' => e = .returned (.int .i64 (zopn D.A : Nat)) ∧ Below w.heap.size w w' := by
  obtain ⟨r, Z, hF, hD⟩ := h
  exact zopened hD
theorem DI.down (h : DI w B p F D) : Calls Try.prog 26 #[.pointer (some ⟨p, 0, none⟩)] w fun e w' => e = .returned (.bool D.down) ∧ w = w' := by
  obtain ⟨r, Z, hF, hD⟩ := h
  exact zdown hD
end
end Go.Proofs.Ytcgjkgcafkcgoaa
