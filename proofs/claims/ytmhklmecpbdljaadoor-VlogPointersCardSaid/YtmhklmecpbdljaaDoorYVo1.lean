/- Chapter 14: a log over one zone of the small device. -/
import Derived.Test.YtmhklmecpbdljaaDoorYJc
namespace Go.Proofs.YtmhklmecpbdljaaDoor
open Go.RowKit
set_option linter.unusedVariables false
set_option linter.unusedSimpArgs false

/-- all zones but z are empty; z has the bytes L -/
structure One (z : Nat) (D : Dv) (L : List UInt8) : Prop where
  n : D.n = 4
  size : D.size = 400
  op : D.op = 4
  lenA : D.A.length = 4
  down : D.down = false
  left : D.left < 0
  zz : z < 4
  b : ∀ h : z < D.A.length, D.A[z].b = L
  oth : ∀ j (h : j < D.A.length), j ≠ z → D.A[j].st = 0 ∧ D.A[j].b = []
  st2 : ∀ h : z < D.A.length, D.A[z].st = 2 ↔ L.length = 400
theorem One.new {z : Nat} (hz : z < 4) : One z (dv0 4 400 4) [] :=
  have hx : ∀ j (h : j < (dv0 4 400 4).A.length), (dv0 4 400 4).A[j] = ⟨0, [], 0⟩ := fun j h => List.getElem_replicate _
  ⟨rfl, rfl, rfl, rfl, rfl, (by show (-1 : Int) < 0; decide), hz, fun h => by rw [hx z h], fun j h _ => by rw [hx j h]; exact ⟨rfl, rfl⟩, fun h => by rw [hx z h]; simp⟩
section
variable {z : Nat} {D : Dv} {L : List UInt8}
theorem One.lt (h : One z D L) : z < D.A.length := by rw [h.lenA]; exact h.zz
theorem One.rm (h : One z D L) (hL : L.length ≤ 400) : zrm D (z : Nat) = (400 : Int) - (L.length : Int) := by
  rw [zrm_at z h.lt, h.b h.lt, h.size]
  by_cases e : (D.A[z]'h.lt).st = 2
  · rw [if_pos e, (h.st2 h.lt).1 e]; rfl
  · rw [if_neg e]; rfl
theorem One.pt (h : One z D L) : zpt D (z : Nat) = (L.length : Nat) := by rw [zpt_at z h.lt, h.b h.lt]
theorem One.read (h : One z D L) (i j : Int) : zread D (z : Nat) i j = zrdb L i j := by
  rw [zread_in h.down (by rw [h.n]; exact h.zz) h.lt, h.b h.lt]
theorem One.readO (h : One z D L) {y : Int} (hy : y ≠ (z : Nat)) (i : Int) {s : Int} (hs : 0 < s) : zread D y i s = ([], 70) := by
  rcases zcases D y with h1 | ⟨h1, m, rfl, h2⟩
  · rw [zread_bad h1]
    have h' : y < 0 ∨ (D.n : Int) ≤ y := by
      rcases h1 with h1 | h1
      · rw [h.down] at h1; cases h1
      · exact h1
    rw [zfnd_out h.down h']
  · have hm : m < D.A.length := by rw [h.lenA, ← h.n]; exact h2
    rw [zread_in h.down h2 hm, (h.oth m hm (by omega)).2]
    exact zrdb_nil _ _ hs
theorem One.opn (h : One z D L) (h0 : (D.A[z]'h.lt).st = 0) : zopn D.A = 0 := by
  unfold zopn
  rw [List.countP_eq_zero]
  intro x hx
  obtain ⟨j, hj, rfl⟩ := List.mem_iff_getElem.1 hx
  by_cases e : j = z
  · subst e; simp [h0]
  · simp [(h.oth j hj e).1]
/-- bytes are laid -/
theorem One.app (h : One z D L) (m : List UInt8) (hL : L.length < 400) (hm : L.length + m.length ≤ 400) : ∃ D', zapp D (z : Nat) m = (D', 0) ∧ One z D' (L ++ m) ∧ D'.done = D.done + 1 := by
  have hst : (D.A[z]'h.lt).st ≠ 2 := fun e => by have := (h.st2 h.lt).1 e; omega
  rw [zapp_in h.down (by rw [h.n]; exact h.zz) h.lt]
  unfold zappA
  rw [if_neg hst, if_neg (by rintro ⟨h0, h1⟩; rw [h.opn h0, h.op] at h1; omega), h.b h.lt, h.size, if_neg (by omega)]
  refine ⟨{ D with done := D.done + 1, A := D.A.set z ⟨if L.length + m.length = 400 then 2 else 1, L ++ m, (D.A[z]'h.lt).fl⟩ }, ?_, ⟨h.n, h.size, h.op, by simp only [List.length_set]; exact h.lenA, h.down, h.left, h.zz, fun _ => ?_, fun j hj hne => ?_, fun _ => ?_⟩, rfl⟩
  · rw [zcmd_free (by exact h.left)]; simp only [h.size]
  · simp
  · simp only [List.length_set] at hj
    simp only
    rw [List.getElem_set_ne (fun e => hne e.symm)]
    exact h.oth j hj hne
  · simp only [List.getElem_set_self, List.length_append]
    by_cases e : L.length + m.length = 400 <;> simp [e]
theorem One.app_no (h : One z D L) (m : List UInt8) (hm : L.length = 400 ∨ 400 < L.length + m.length) : ∃ er : Int, zapp D (z : Nat) m = (D, er) ∧ er ≠ 0 := by
  rw [zapp_in h.down (by rw [h.n]; exact h.zz) h.lt]
  unfold zappA
  by_cases hst : (D.A[z]'h.lt).st = 2
  · rw [if_pos hst]; exact ⟨_, rfl, by decide⟩
  · have hne : L.length ≠ 400 := fun e => hst ((h.st2 h.lt).2 e)
    rw [if_neg hst, if_neg (by rintro ⟨h0, h1⟩; rw [h.opn h0, h.op] at h1; omega), h.b h.lt, h.size, if_pos (by omega)]
    exact ⟨_, rfl, by decide⟩
end
/-- what a log that is appended to tells -/
def AppIs (z : Nat) (D D' : Dv) (L R : List UInt8) (zz aa nn er : Int) : Prop :=
  (er = 0 ∧ zz = (z : Nat) ∧ aa = (L.length : Nat) ∧ nn = (R.length : Nat) ∧ L.length + (frB R).length ≤ 400 ∧ One z D' (L ++ frB R) ∧ D'.done = D.done + 1) ∨
  (er = 201 ∧ zz = 0 ∧ aa = 0 ∧ nn = 0 ∧ D' = D ∧ 400 < (frB R).length) ∨
  (er = 73 ∧ zz = 0 ∧ aa = 0 ∧ nn = 0 ∧ D' = D ∧ (frB R).length ≤ 400 ∧ 400 < L.length + (frB R).length)
section
variable {w w' : World} {B q p : Nat} {F : Nat → Prop} {D : Dv} {z : Nat} {L : List UInt8}
/-- a record is laid -/
theorem One.log (hD : One z D L) (hL : L.length ≤ 400) (h : LI w B q p F D ([] ++ [z])) (hT : Tab9 w) (R : List UInt8) (hR : R.length ≤ 1000000) (hdn : D.done < 4611686018427387904) :
    ∃ D' zz aa nn er, AppIs z D D' L R zz aa nn er ∧ ∀ (W : World) (ao : Option Addr) (c : Nat), Below w.heap.size w W → RB W (.slice ao R.length c) R → Calls Tryd.prog 29 #[.pointer (some ⟨q, 0, none⟩), .slice ao R.length c] W fun e w' => e = .returned (.tuple #[.int .i64 zz, .int .i64 aa, .int .i64 er]) ∧ LOut W B q p F D' ([] ++ [z]) w' := by
  have hrm := hD.rm hL
  have hf5 := frB_pos R
  by_cases h1 : 400 < (frB R).length
  · exact ⟨D, 0, 0, 0, 201, .inr (.inl ⟨rfl, rfl, rfl, rfl, rfl, h1⟩), fun W ao c hW hr => ((h.below hW).append_large (hT.below hW) hr hR (by rw [hD.size]; exact h1)).mono fun e w' ⟨h1, h2⟩ => ⟨h1, LOut.same (h.below hW) h2⟩⟩
  · by_cases h2 : 400 < L.length + (frB R).length
    · exact ⟨D, 0, 0, 0, 73, .inr (.inr ⟨rfl, rfl, rfl, rfl, rfl, by omega, h2⟩), fun W ao c hW hr => ((h.below hW).append_full (by simp) (hT.below hW) hr hR (by rw [hD.size]; omega) (by rw [hrm]; omega)).mono fun e w' ⟨h1, h2⟩ => ⟨h1, LOut.same (h.below hW) h2⟩⟩
    · obtain ⟨D', hz, hD', hdn'⟩ := hD.app (frB R) (by omega) (by omega)
      refine ⟨D', (z : Nat), (L.length : Nat), (R.length : Nat), 0, .inl ⟨rfl, rfl, rfl, rfl, by omega, hD', hdn'⟩, fun W ao c hW hr => ?_⟩
      have := (h.below hW).append (er := 0) (by simp) (hT.below hW) hr hR (by rw [hD.size]; omega) (by rw [hrm]; omega) hdn hz rfl
      rw [hD.pt] at this
      exact this
/-- a value is put -/
theorem One.put (hD : One z D L) (hL : L.length ≤ 400) (h : LI w B q p F D ([] ++ [z])) (hT : Tab9 w) {u : ByteArray} {s k : Int} {v : ByteArray} (hr : keyRight u s k = true) (hv : v.size ≤ 100000) (hdn : D.done < 4611686018427387904) :
    ∃ D' zz aa nn er, AppIs z D D' L (recB u s k v) zz aa nn er ∧ Calls Tryd.prog 13 #[.pointer (some ⟨q, 0, none⟩), .agg #[.string u, .int .i64 s, .int .i64 k], .string v] w fun e w' => e = .returned (.tuple #[.agg #[.int .i64 zz, .int .i64 aa, .int .i64 nn], .int .i64 er]) ∧ LOut w B q p F D' ([] ++ [z]) w' := by
  have hRl := recB_len hr v (by omega)
  obtain ⟨D', zz, aa, nn, er, hA, hC⟩ := hD.log hL h hT (recB u s k v) (by omega) hdn
  refine ⟨D', zz, aa, nn, er, hA, h.put hr (by omega) zz aa er zz aa nn hC ?_⟩
  rcases hA with ⟨h1, h2, h3, h4, _⟩ | ⟨h1, h2, h3, h4, _⟩ | ⟨h1, h2, h3, h4, _⟩
  · exact .inl ⟨h1, rfl, rfl, h4⟩
  · exact .inr ⟨by rw [h1]; decide, h2, h3, h4⟩
  · exact .inr ⟨by rw [h1]; decide, h2, h3, h4⟩
/-- bytes are laid by the device -/
theorem One.raw (hD : One z D L) (hL : L.length ≤ 400) (h : LI w B q p F D ([] ++ [z])) (m : List UInt8) (hm : m.length ≤ 1000000) (hdn : D.done < 4611686018427387904) :
    ∃ (D' : Dv) (L' : List UInt8) (er : Int), ((er = 0 ∧ L' = L ++ m) ∨ (er ≠ 0 ∧ L' = L)) ∧ L'.length ≤ 400 ∧ One z D' L' ∧ D'.done ≤ D.done + 1 ∧ ∀ (ao : Option Addr) (c : Nat), RB w (.slice ao m.length c) m → Calls Tryd.prog 14 #[.pointer (some ⟨p, 0, none⟩), .int .i64 (z : Nat), .slice ao m.length c] w fun e w' => e = .returned (.int .i64 er) ∧ LOut w B q p F D' ([] ++ [z]) w' := by
  by_cases h1 : L.length = 400 ∨ 400 < L.length + m.length
  · obtain ⟨er, hz, her⟩ := hD.app_no m h1
    exact ⟨D, L, er, .inr ⟨her, rfl⟩, hL, hD, Nat.le_succ _, fun ao c hr => h.dappend hdn _ hr hm hz⟩
  · obtain ⟨D', hz, hD', hdn'⟩ := hD.app m (by omega) (by omega)
    exact ⟨D', L ++ m, 0, .inl ⟨rfl, rfl⟩, by rw [List.length_append]; omega, hD', by omega, fun ao c hr => h.dappend hdn _ hr hm hz⟩
end
end Go.Proofs.YtmhklmecpbdljaaDoor
