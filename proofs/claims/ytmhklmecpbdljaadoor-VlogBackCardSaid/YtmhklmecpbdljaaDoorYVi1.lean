/- Chapter 14: items in memory; small. -/
import Derived.Test.YtmhklmecpbdljaaDoorYJi
namespace Go.Proofs.YtmhklmecpbdljaaDoor
open Go.RowKit
set_option linter.unusedVariables false
set_option linter.unusedSimpArgs false

structure It where
  u : ByteArray
  s : Int
  k : Int
  v : ByteArray
def ItOk (x : It) : Prop := x.u.size ≤ maxLen ∧ x.v.size ≤ maxLen
/-- a slice of items -/
def VIs (w : World) (a : Option Addr) (l : List It) : Prop :=
  (0 < l.length → ∃ b off, a = some ⟨b, off, none⟩ ∧ ∀ i (h : i < l.length), w.cell? ⟨b, off + i * 4, none⟩ = some (.string l[i].u) ∧ w.cell? ⟨b, off + i * 4 + 1, none⟩ = some (.int .i64 l[i].s) ∧ w.cell? ⟨b, off + i * 4 + 2, none⟩ = some (.int .i64 l[i].k) ∧ w.cell? ⟨b, off + i * 4 + 3, none⟩ = some (.string l[i].v)) ∧ ∀ x ∈ l, ItOk x
theorem VIs.below {w w' : World} {a : Option Addr} {l : List It} (h : VIs w a l) (hb : Below w.heap.size w w') : VIs w' a l := by
  refine ⟨fun hl => ?_, h.2⟩
  obtain ⟨b, off, rfl, hc⟩ := h.1 hl
  refine ⟨b, off, rfl, fun i hi => ?_⟩
  obtain ⟨c0, c1, c2, c3⟩ := hc i hi
  exact ⟨cell_next c0 _ hb, cell_next c1 _ hb, cell_next c2 _ hb, cell_next c3 _ hb⟩
theorem VIs.cell {w wr : World} {a : Option Addr} {l : List It} (h : VIs w a l) (hb : Below w.heap.size w wr) (k : Nat) (hk : k < l.length) :
    ∃ b off, a = some ⟨b, off, none⟩ ∧ wr.cell? ⟨b, off + k * 4, none⟩ = some (.string l[k].u) ∧ wr.cell? ⟨b, off + k * 4 + 1, none⟩ = some (.int .i64 l[k].s) ∧ wr.cell? ⟨b, off + k * 4 + 2, none⟩ = some (.int .i64 l[k].k) ∧ wr.cell? ⟨b, off + k * 4 + 3, none⟩ = some (.string l[k].v) ∧ ItOk l[k] := by
  obtain ⟨b, off, rfl, hc⟩ := h.1 (by omega)
  obtain ⟨c0, c1, c2, c3⟩ := hc k hk
  exact ⟨b, off, rfl, cell_next c0 _ hb, cell_next c1 _ hb, cell_next c2 _ hb, cell_next c3 _ hb, h.2 _ (List.getElem_mem hk)⟩
theorem cells4n {w : World} {a b c d : Value} {T : TypeId} : (w.alloc (.cells #[a, b, c, d] T)).cell? ⟨w.heap.size, 0, none⟩ = some a ∧ (w.alloc (.cells #[a, b, c, d] T)).cell? ⟨w.heap.size, 1, none⟩ = some b ∧ (w.alloc (.cells #[a, b, c, d] T)).cell? ⟨w.heap.size, 2, none⟩ = some c ∧ (w.alloc (.cells #[a, b, c, d] T)).cell? ⟨w.heap.size, 3, none⟩ = some d := by
  have h := heap_alloc_new w (.cells #[a, b, c, d] T)
  refine ⟨?_, ?_, ?_, ?_⟩ <;> (rw [cell_of_row _ _ _ _ _ _ h]; rfl)
def ItSm (x : It) : Prop := x.u.size ≤ 200 ∧ x.v.size ≤ 500
def Small14 (w : World) (l : List It) (e : Ending) (w' : World) : Prop := ∃ z, e = .returned (.bool z) ∧ (z = true ↔ (∀ x ∈ l, ItSm x) ∧ l.length ≤ 40) ∧ Below w.heap.size w w'
set_option maxHeartbeats 4000000 in
theorem small14 {w : World} {a : Option Addr} {c : Nat} {l : List It} (h : VIs w a l) (hl : l.length ≤ maxLen) :
    Calls Tryd.prog 10 #[.slice a l.length c] w (Small14 w l) := by
  have H := Lib.hid h
  unfold maxLen at hl
  clear h
  go_enter Tryd.func10, Tryd.ntmps10
  go_wp2
  go_loopw [7] (fun i wr => ∃ k : Nat, k ≤ l.length ∧ i = .int .i64 k ∧ (∀ (j : Nat) (hj : j < l.length), j < k → ItSm l[j]) ∧ Below w.heap.size w wr) (fun i _ => l.length - (intOf i).toNat)
  case atStart => exact ⟨0, Nat.zero_le _, rfl, fun j hj hk => by omega, Below.refl _ _⟩
  case round =>
    obtain ⟨k, hk, rfl, hall, hbr⟩ := hrel
    have Hall := Lib.hid hall
    have HB := Lib.hid hbr
    clear hall
    by_cases hlt : k < l.length
    · obtain ⟨b, off, rfl, d0, d1, d2, d3, hok⟩ := H.out.cell hbr k hlt
      obtain ⟨hu, hv⟩ := hok
      unfold maxLen at hu hv
      have hmem := List.getElem_mem hlt
      have Hall2 : Hid (ItSm l[k] → ∀ (j : Nat) (hj : j < l.length), j < k + 1 → ItSm l[j]) := Lib.hid fun h3 j hj hjk => by
        by_cases e : j = k
        · subst e; exact h3
        · exact Hall.out j hj (by omega)
      have Hno : Hid (¬ ItSm l[k] → ¬ ((∀ x ∈ l, ItSm x) ∧ l.length ≤ 40)) := Lib.hid fun h3 h4 => h3 (h4.1 _ hmem)
      clear hbr hmem
      generalize l[k] = x at *
      obtain ⟨xu, xs, xk, xv⟩ := x
      simp only at d0 d1 d2 d3 hu hv
      have HB2 : Hid (Below w.heap.size w (wr.alloc (.cells #[.string xu, .int .i64 xs, .int .i64 xk, .string xv] 37))) := Lib.hid (HB.out.alloc HB.out.size _)
      have h3 : 200 < xu.size ∨ (xu.size ≤ 200 ∧ 500 < xv.size) ∨ (xu.size ≤ 200 ∧ xv.size ≤ 500) := by omega
      rcases h3 with h1 | ⟨h1, h2⟩ | ⟨h1, h2⟩
      · have HN := Lib.hid (Hno.out (by unfold ItSm; simp only; omega))
        go_wp2
        go_ret
        exact ⟨false, rfl, ⟨fun h => (by cases h), fun h => absurd h HN.out⟩, HB2.out⟩
      · have HN := Lib.hid (Hno.out (by unfold ItSm; simp only; omega))
        go_wp2
        go_ret
        exact ⟨false, rfl, ⟨fun h => (by cases h), fun h => absurd h HN.out⟩, HB2.out⟩
      · have HA := Lib.hid (Hall2.out ⟨h1, h2⟩)
        go_wp2
        go_roundw
        case rel => exact ⟨k + 1, by omega, by go_num, HA.out, HB2.out⟩
        case measure => simp [intOf]; omega
    · obtain rfl : k = l.length := by omega
      have Hyes : Hid (∀ x ∈ l, ItSm x) := Lib.hid fun x hx => by
        obtain ⟨j, hj, rfl⟩ := List.mem_iff_getElem.1 hx
        exact Hall.out j hj hj
      clear hlt hk hbr
      by_cases hmm : l.length ≤ 40
      · have hd : decide ((l.length : Int) ≤ 40) = true := decide_eq_true (by omega)
        go_wp2
        go_ret
        exact ⟨true, by first | rfl | simp [hmm], ⟨fun _ => ⟨Hyes.out, hmm⟩, fun _ => rfl⟩, HB.out⟩
      · have hd : decide ((l.length : Int) ≤ 40) = false := decide_eq_false (by omega)
        go_wp2
        go_ret
        exact ⟨false, by first | rfl | simp [hmm], ⟨fun h => (by cases h), fun h => absurd h.2 hmm⟩, HB.out⟩
/-- a value is put into a log over one zone, whatever its key -/
theorem One.put_it {w : World} {B q p : Nat} {F : Nat → Prop} {D : Dv} {z : Nat} {L : List UInt8} (hD : One z D L) (hL : L.length ≤ 400) (h : LI w B q p F D ([] ++ [z])) (hT : Tab9 w) (x : It) (hx : x.v.size ≤ 100000) (hdn : D.done < 4611686018427387904) :
    ∃ (D' : Dv) (L' : List UInt8) (zz aa nn er : Int), ((er = 0 ∧ keyRight x.u x.s x.k = true ∧ L' = L ++ frB (recB x.u x.s x.k x.v) ∧ zz = (z : Nat) ∧ aa = (L.length : Nat) ∧ nn = ((recB x.u x.s x.k x.v).length : Nat)) ∨ (er ≠ 0 ∧ L' = L)) ∧ L'.length ≤ 400 ∧ One z D' L' ∧ D'.done ≤ D.done + 1 ∧ Calls Tryd.prog 13 #[.pointer (some ⟨q, 0, none⟩), .agg #[.string x.u, .int .i64 x.s, .int .i64 x.k], .string x.v] w fun e w' => e = .returned (.tuple #[.agg #[.int .i64 zz, .int .i64 aa, .int .i64 nn], .int .i64 er]) ∧ LOut w B q p F D' ([] ++ [z]) w' := by
  cases hr : keyRight x.u x.s x.k with
  | false => exact ⟨D, L, 0, 0, 0, 30, .inr ⟨by decide, rfl⟩, hL, hD, Nat.le_succ _, (put_bad q x.u x.s x.k x.v w hr).mono fun e w' ⟨h1, h2⟩ => ⟨h1, LOut.same h h2⟩⟩
  | true =>
    obtain ⟨D', zz, aa, nn, er, hA, hC⟩ := hD.put hL h hT hr hx hdn
    rcases hA with ⟨h1, h2, h3, h4, h5, h6, h7⟩ | ⟨h1, _, _, _, rfl, _⟩ | ⟨h1, _, _, _, rfl, _⟩
    · exact ⟨D', L ++ frB (recB x.u x.s x.k x.v), zz, aa, nn, er, .inl ⟨h1, rfl, rfl, h2, h3, h4⟩, by rw [List.length_append]; exact h5, h6, by omega, hC⟩
    · exact ⟨_, L, zz, aa, nn, er, .inr ⟨by rw [h1]; decide, rfl⟩, hL, hD, Nat.le_succ _, hC⟩
    · exact ⟨_, L, zz, aa, nn, er, .inr ⟨by rw [h1]; decide, rfl⟩, hL, hD, Nat.le_succ _, hC⟩
end Go.Proofs.YtmhklmecpbdljaaDoor
