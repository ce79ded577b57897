/- What the rows' steps share: how a byte slice that came in is read. -/
import Derived.Test.YtcgjkgcafkcgoaaBase
import Derived.ProofKit
import Derived.OpenShut
import Derived.ShutString
import Derived.ChangeOld
import Derived.Lib.SmallJoins
namespace Go.Proofs.Ytcgjkgcafkcgoaa
open Go.ChangeShapes Go.WideShapes Go.ChangeAt Go.RowKit Go.Joins

theorem own : ownKnob Try.prog.godebug = none := by kernel_rfl
theorem laidOut : laidOutB Try.prog = true := by kernel_rfl

/-- the bytes of numbers -/
def toB (zs : List Int) : List UInt8 := zs.map fun n => UInt8.ofNat n.toNat

theorem rb_of_ints {w : World} {a : Addr} {len cap : Nat} {zs : List Int} (hl : len ≤ cap) (hz : zs.length = cap) (hc : ∀ i, i < zs.length → w.cell? (a.add i) = some (.int .u8 (zs.getD i 0))) (hw : ∀ n ∈ zs, (Lit.int .u8 n).wf = true) :
    RB w (.slice (some a) len cap) (toB (zs.take len)) := by
  have hlen : (toB (zs.take len)).length = len := by simp [toB]; omega
  refine ⟨some a, cap, by rw [hlen], by rw [hlen]; exact hl, fun hp => ?_⟩
  rw [hlen] at hp
  obtain ⟨b, off, spot⟩ := a
  have hc0 := hc 0 (by omega)
  have hspot : spot = none := by simpa [Addr.add] using World.cell?_spot hc0
  subst hspot
  refine ⟨b, off, rfl, fun j hj => ?_⟩
  rw [hlen] at hj
  rw [← add_none, hc j (by omega)]
  have hjz : j < zs.length := by omega
  have hwf := hw zs[j] (List.getElem_mem hjz)
  have hbd := bounds_u8 hwf
  have e : (((toB (zs.take len))[j]'(by rw [hlen]; exact hj)).toNat : Int) = zs[j] := by
    have e2 : (toB (zs.take len))[j]'(by rw [hlen]; exact hj) = UInt8.ofNat (zs[j]).toNat := by simp [toB]
    rw [e2]
    have : (UInt8.ofNat (zs[j]).toNat).toNat = (zs[j]).toNat % 256 := by simp
    rw [this]
    omega
  rw [bv, e]
  simp [List.getD, hjz]

theorem rb_open {H : Type} {enc : TypeId × Value → H} {W : World} {spare : Nat → Bool} {held : Bool} {a : Option Addr} {len cap : Nat} {d : DataW H} {p : List MemPlace} {base : Nat}
    (h : DataW.Trod enc Try.prog W base spare held 45 (.slice a len cap) d p) (hsp : ∀ b, spare b = true) : ∃ l, RB W (.slice a len cap) l ∧ l.length ≤ maxLen := by
  obtain ⟨fuel, hf⟩ := h
  rcases open_ints Try.underlying45 Try.underlying5 (by kernel_rfl) hf with ⟨hcs, _⟩ | ⟨x, l, c, zs, hcs, _, hl, hm, hz, _, hcell, hwz⟩
  · simp [Value.cells] at hcs
    obtain ⟨rfl, rfl, rfl⟩ := hcs
    exact ⟨[], RB.nil _ _ _, by simp⟩
  · simp [Value.cells] at hcs
    obtain ⟨rfl, rfl, rfl⟩ := hcs
    rw [if_pos (hsp _)] at hz
    have hb := rb_of_ints hl hz hcell hwz
    exact ⟨_, hb, by simp [toB]; omega⟩
end Go.Proofs.Ytcgjkgcafkcgoaa
