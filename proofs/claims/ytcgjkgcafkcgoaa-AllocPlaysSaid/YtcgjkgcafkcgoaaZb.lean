/- A device of zones: how many are open; reading. -/
import Derived.Test.YtcgjkgcafkcgoaaZa
namespace Go.Proofs.Ytcgjkgcafkcgoaa
open Go.RowKit
set_option linter.unusedVariables false
set_option linter.unusedSimpArgs false

def zopn (A : List Zn) : Nat := A.countP fun z => z.st == 1
theorem zopn_succ (A : List Zn) (n : Nat) (h : n < A.length) : zopn (A.take (n + 1)) = zopn (A.take n) + if A[n].st = 1 then 1 else 0 := by
  unfold zopn
  rw [List.take_succ_eq_append_getElem h, List.countP_append, List.countP_singleton]
  simp only [beq_iff_eq]
theorem zopn_le (A : List Zn) : zopn A ≤ A.length := List.countP_le_length
set_option maxRecDepth 100000 in
set_option maxHeartbeats 2000000 in
theorem zopened {w : World} {B p r : Nat} {Z : List Zm} {D : Dv} (h : DM w B p r Z D) :
    Calls Try.prog 37 #[.pointer (some ⟨p, 0, none⟩)] w fun e w' => e = .returned (.int .i64 (zopn D.A : Nat)) ∧ Below w.heap.size w w' := by
  obtain ⟨_, _, _, c3, _, _, _⟩ := h.cells
  have hlA := h.lenA
  have hl := h.len
  have n2 := h.ok.n2
  have H := Lib.hid h
  have hAt : ∀ k (hk : k < Z.length) (hk2 : k < D.A.length), D.A[k] = Z[k].z := fun k hk _ => (h.at k hk).symm
  have HAt := Lib.hid hAt
  have HlA := Lib.hid hlA
  have Hl := Lib.hid hl
  clear h hAt hlA hl
  go_enter Try.func37, Try.ntmps37
  go_wp2
  go_loopw [3, 11] (fun c i wr => ∃ n : Nat, n ≤ D.n ∧ i = .int .i64 n ∧ c = .int .i64 (zopn (D.A.take n) : Nat) ∧ Below w.heap.size w wr) (fun _ i _ => D.n - (intOf i).toNat)
  case atStart => exact ⟨0, Nat.zero_le _, rfl, rfl, Below.refl _ _⟩
  case round =>
    obtain ⟨n, hn, rfl, rfl, hbr⟩ := hrel
    by_cases hlt : n < D.n
    · have hlz : n < Z.length := by rw [Hl.out]; exact hlt
      obtain ⟨a, c, hv, hc, d0, d1, d2⟩ := (H.out.below hbr).zn n hlz
      have hs := zopn_succ D.A n (by rw [HlA.out]; exact hlt)
      rw [HAt.out n hlz (by rw [HlA.out]; exact hlt)] at hs
      have hle := zopn_le (D.A.take n)
      rw [List.length_take] at hle
      generalize zopn (D.A.take n) = z0 at *
      generalize Z[n].z.st = s at *
      generalize Z[n].z.b.length = bl at *
      generalize Z[n].z.fl = fl at *
      have hz64 : z0 ≤ 64 := by omega
      clear hv hle
      by_cases h1 : s = 1
      · rw [if_pos h1] at hs
        subst h1
        have Hs := Lib.hid hs
        clear hs
        go_wp2
        go_roundw
        case rel => exact ⟨n + 1, by omega, by go_num, by rw [Hs.out]; go_num, bnext hbr (by (repeat first | exact Below.refl _ _ | refine Below.drew ?_ | refine Below.alloc ?_ (by simp <;> omega) _ | refine Below.setCell ?_ (by simp <;> omega) _))⟩
        case measure => simp [intOf]; omega
      · rw [if_neg h1] at hs
        have Hs := Lib.hid hs
        clear hs
        go_wp2
        go_roundw
        case rel => exact ⟨n + 1, by omega, by go_num, by rw [Hs.out]; rfl, bnext hbr (by (repeat first | exact Below.refl _ _ | refine Below.drew ?_ | refine Below.alloc ?_ (by simp <;> omega) _ | refine Below.setCell ?_ (by simp <;> omega) _))⟩
        case measure => simp [intOf]; omega
    · have e : D.A.take n = D.A := List.take_of_length_le (by rw [HlA.out]; omega)
      rw [e]
      go_wp2
      go_ret
      exact ⟨rfl, hbr⟩

end Go.Proofs.Ytcgjkgcafkcgoaa
