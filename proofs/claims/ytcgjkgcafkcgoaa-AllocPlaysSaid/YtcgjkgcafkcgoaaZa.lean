/- A device of zones: what its small functions answer. -/
import Derived.Test.YtcgjkgcafkcgoaaZn
namespace Go.Proofs.Ytcgjkgcafkcgoaa
open Go.RowKit
set_option linter.unusedVariables false
set_option linter.unusedSimpArgs false

def zcmd (D : Dv) : Dv × Int := if D.left = 0 then ({ D with down := true }, 74) else ({ D with left := if 0 < D.left then D.left - 1 else D.left, done := D.done + 1 }, 0)
theorem zcmd_off {D : Dv} (h : D.left = 0) : zcmd D = ({ D with down := true }, 74) := if_pos h
theorem zcmd_arm {D : Dv} (h : 0 < D.left) : zcmd D = ({ D with left := D.left - 1, done := D.done + 1 }, 0) := by
  unfold zcmd; rw [if_neg (by omega), if_pos h]
theorem zcmd_free {D : Dv} (h : D.left < 0) : zcmd D = ({ D with done := D.done + 1 }, 0) := by
  unfold zcmd; rw [if_neg (by omega), if_neg (by omega)]

set_option maxHeartbeats 2000000 in
theorem zcommand {w : World} {B p r : Nat} {Z : List Zm} {D : Dv} (h : DM w B p r Z D) (hd : D.done < 4611686018427387904) :
    Calls Try.prog 38 #[.pointer (some ⟨p, 0, none⟩)] w fun e w' => e = .returned (.int .i64 (zcmd D).2) ∧ DM w' B p r Z (zcmd D).1 ∧ Chg (fun k => k = p) w w' := by
  obtain ⟨_, _, _, _, c4, c5, c6⟩ := h.cells
  have f4 := h.frz 4
  have f5 := h.frz 5
  have f6 := h.frz 6
  obtain ⟨a1, a2, a3, a4, a5, a6, l1, l2, a9, a10⟩ := h.ok
  have H := Lib.hid h
  have A := Lib.hid (And.intro a1 (And.intro a2 (And.intro a3 (And.intro a4 (And.intro a5 (And.intro a6 a10))))))
  clear h a1 a2 a3 a4 a5 a6 a10
  have h3 : D.left = 0 ∨ 0 < D.left ∨ D.left < 0 := by omega
  rcases h3 with hz | hz | hz
  · rw [hz] at c4
    rw [zcmd_off hz]
    clear hz
    go_enter Try.func38, Try.ntmps38
    go_wp2
    go_ret
    obtain ⟨b1, b2, b3, b4, b5, b6, b7⟩ := A.out
    exact ⟨rfl, H.out.putB 6 _ rfl rfl rfl ⟨b1, b2, b3, b4, b5, b6, l1, l2, a9, b7⟩, Chg.set _ _ _ _⟩
  · rw [zcmd_arm hz]
    generalize hl : D.left = lf at *
    have HL := Lib.hid hl
    clear hl
    go_enter Try.func38, Try.ntmps38
    go_wp2
    go_ret
    obtain ⟨b1, b2, b3, b4, b5, b6, b7⟩ := A.out
    have h1 := H.out.putB (D' := { D with left := lf - 1 }) 4 (.int .i64 (lf - 1)) rfl rfl rfl ⟨b1, b2, b3, b4, b5, b6, by simp only; omega, by simp only; omega, a9, b7⟩
    have h2 := h1.putB (D' := { D with left := lf - 1, done := D.done + 1 }) 5 (.int .i64 ((D.done : Int) + 1)) rfl rfl rfl ⟨b1, b2, b3, b4, b5, b6, by simp only; omega, by simp only; omega, by simp only; omega, b7⟩
    exact ⟨rfl, h2, (Chg.set _ _ _ _).trans (Chg.set _ _ _ _)⟩
  · rw [zcmd_free hz]
    generalize hl : D.left = lf at *
    have HL := Lib.hid hl
    clear hl
    go_enter Try.func38, Try.ntmps38
    go_wp2
    go_ret
    obtain ⟨b1, b2, b3, b4, b5, b6, b7⟩ := A.out
    obtain rfl := HL.out
    exact ⟨rfl, H.out.putB 5 (.int .i64 ((D.done : Int) + 1)) rfl rfl rfl ⟨b1, b2, b3, b4, b5, b6, l1, l2, by simp only; omega, b7⟩, Chg.set _ _ _ _⟩

/-- what is wrong with a zone's number -/
def zfnd (D : Dv) (z : Int) : Int := if D.down = true then 74 else if z < 0 ∨ (D.n : Int) ≤ z then 70 else 0
theorem zfnd_down {D : Dv} {z : Int} (h : D.down = true) : zfnd D z = 74 := if_pos h
theorem zfnd_out {D : Dv} {z : Int} (h : D.down = false) (hz : z < 0 ∨ (D.n : Int) ≤ z) : zfnd D z = 70 := by
  unfold zfnd; rw [if_neg (by rw [h]; simp), if_pos hz]
theorem zfnd_in {D : Dv} {m : Nat} (h : D.down = false) (hz : m < D.n) : zfnd D (m : Int) = 0 := by
  unfold zfnd; rw [if_neg (by rw [h]; simp), if_neg (by omega)]

set_option maxHeartbeats 2000000 in
theorem zfind_bad {w : World} {B p r : Nat} {Z : List Zm} {D : Dv} (h : DM w B p r Z D) (z : Int) (hz : D.down = true ∨ z < 0 ∨ (D.n : Int) ≤ z) :
    Calls Try.prog 36 #[.pointer (some ⟨p, 0, none⟩), .int .i64 z] w fun e w' => e = .returned (.tuple #[.pointer none, .int .i64 (zfnd D z)]) ∧ w = w' := by
  obtain ⟨_, _, _, c3, _, _, c6⟩ := h.cells
  obtain ⟨a1, a2, a3, a4, a5, a6, l1, l2, a9, a10⟩ := h.ok
  clear h l1 l2 a9 a10 a3 a4 a5 a6
  cases hd : D.down with
  | true =>
    rw [zfnd_down hd]
    rw [hd] at c6
    clear hd hz c3
    go_enter Try.func36, Try.ntmps36
    go_wp2
    refine bodyPost_ret (v := .tuple #[.pointer none, .int .i64 74]) (by simp [results, Try.results36, go_sem]) rfl ?_
    exact ⟨rfl, rfl⟩
  | false =>
    have hz2 : z < 0 ∨ (0 ≤ z ∧ (D.n : Int) ≤ z) := by
      rcases hz with h | h | h
      · rw [hd] at h; cases h
      · exact .inl h
      · exact .inr ⟨by omega, h⟩
    rw [zfnd_out hd (by omega)]
    rw [hd] at c6
    clear hd hz
    generalize D.n = n at *
    rcases hz2 with h1 | ⟨h1, h2⟩
    all_goals
      go_enter Try.func36, Try.ntmps36
      go_wp2
      refine bodyPost_ret (v := .tuple #[.pointer none, .int .i64 70]) (by simp [results, Try.results36, go_sem]) rfl ?_
      exact ⟨rfl, rfl⟩
set_option maxHeartbeats 2000000 in
theorem zfind_in {w : World} {B p r : Nat} {Z : List Zm} {D : Dv} (h : DM w B p r Z D) (m : Nat) (hd : D.down = false) (hm : m < D.n) :
    Calls Try.prog 36 #[.pointer (some ⟨p, 0, none⟩), .int .i64 (m : Nat)] w fun e w' => e = .returned (.tuple #[.pointer (some ⟨r, m * 3, none⟩), .int .i64 0]) ∧ w = w' := by
  obtain ⟨_, _, _, c3, _, _, c6⟩ := h.cells
  obtain ⟨a1, a2, a3, a4, a5, a6, l1, l2, a9, a10⟩ := h.ok
  clear h l1 l2 a9 a10 a3 a4 a5 a6
  rw [hd] at c6
  clear hd
  generalize D.n = n at *
  go_enter Try.func36, Try.ntmps36
  go_wp2
  refine bodyPost_ret (v := .tuple #[.pointer (some ⟨r, m * 3, none⟩), .int .i64 0]) (by simp [results, Try.results36, go_sem]) rfl ?_
  exact ⟨rfl, rfl⟩
def zhs (D : Dv) (z : Int) : Bool := decide (0 ≤ z ∧ z < (D.n : Int))
set_option maxHeartbeats 2000000 in
theorem zhas {w : World} {B p r : Nat} {Z : List Zm} {D : Dv} (h : DM w B p r Z D) (z : Int) :
    Calls Try.prog 39 #[.pointer (some ⟨p, 0, none⟩), .int .i64 z] w fun e w' => e = .returned (.bool (zhs D z)) ∧ w = w' := by
  obtain ⟨_, _, _, c3, _, _, c6⟩ := h.cells
  obtain ⟨a1, a2, a3, a4, a5, a6, l1, l2, a9, a10⟩ := h.ok
  clear h l1 l2 a9 a10 a3 a4 a5 a6 c6
  unfold zhs
  generalize D.n = n at *
  have h3 : z < 0 ∨ (0 ≤ z ∧ (n : Int) ≤ z) ∨ (0 ≤ z ∧ z < (n : Int)) := by omega
  rcases h3 with h1 | ⟨h1, h2⟩ | ⟨h1, h2⟩
  · rw [decide_eq_false (p := 0 ≤ z ∧ z < (n : Int)) (by omega)]
    go_enter Try.func39, Try.ntmps39
    go_wp2
    go_ret
    exact ⟨rfl, rfl⟩
  · rw [decide_eq_false (p := 0 ≤ z ∧ z < (n : Int)) (by omega)]
    go_enter Try.func39, Try.ntmps39
    go_wp2
    go_ret
    refine ⟨?_, rfl⟩
    show Ending.returned (.bool (decide (z < (n : Int)))) = _
    rw [decide_eq_false (by omega)]
  · rw [decide_eq_true (p := 0 ≤ z ∧ z < (n : Int)) (by omega)]
    go_enter Try.func39, Try.ntmps39
    go_wp2
    go_ret
    exact ⟨rfl, rfl⟩
/-- a zone's state, pointer, flushed; by its number -/
def zst (D : Dv) (z : Int) : Int := if h : 0 ≤ z ∧ z.toNat < D.A.length then ((D.A[z.toNat]'h.2).st : Int) else -1
def zpt (D : Dv) (z : Int) : Int := if h : 0 ≤ z ∧ z.toNat < D.A.length then ((D.A[z.toNat]'h.2).b.length : Int) else 0
def zfl (D : Dv) (z : Int) : Int := if h : 0 ≤ z ∧ z.toNat < D.A.length then ((D.A[z.toNat]'h.2).fl : Int) else 0
set_option maxHeartbeats 2000000 in
theorem zstate {w : World} {B p r : Nat} {Z : List Zm} {D : Dv} (h : DM w B p r Z D) (z : Int) :
    Calls Try.prog 21 #[.pointer (some ⟨p, 0, none⟩), .int .i64 z] w fun e w' => e = .returned (.int .i64 (zst D z)) ∧ w = w' := by
  have hlA := h.lenA
  have hl := h.len
  have Hhas := Lib.hid (zhas h z)
  obtain ⟨_, _, _, c3, _, _, _⟩ := h.cells
  obtain ⟨a1, a2, a3, a4, a5, a6, l1, l2, a9, a10⟩ := h.ok
  clear l1 l2 a9 a5 a6
  by_cases hz : 0 ≤ z ∧ z < (D.n : Int)
  · obtain ⟨m, rfl⟩ := Int.eq_ofNat_of_zero_le hz.1
    have hm : m < Z.length := by omega
    obtain ⟨a, c, hv, hc, d0, d1, d2⟩ := h.zn m hm
    have e : zst D (m : Nat) = (Z[m].z.st : Nat) := by unfold zst; rw [dif_pos ⟨by omega, by simp; omega⟩, h.at m hm]; rfl
    rw [e]
    have eh : zhs D (m : Nat) = true := decide_eq_true hz
    rw [eh] at Hhas
    have hok := (a10 _ (by rw [← h.abs]; exact List.mem_map.2 ⟨Z[m], List.getElem_mem hm, rfl⟩) : ZnOk D.size Z[m].z)
    obtain ⟨o1, o2, o3⟩ := hok
    have hmn : m < D.n := by omega
    clear e eh h hv a10 hlA hl hz
    generalize Z[m].z.st = s at *
    generalize Z[m].z.b.length = bl at *
    generalize Z[m].z.fl = fl at *
    clear hm
    generalize D.n = n at *
    go_enter Try.func21, Try.ntmps21
    go_wp2_with fail; (with_reducible refine (Hhas.out).mono ?_); rintro e w ⟨rfl, rfl⟩
    go_wp2
    go_ret
    exact ⟨rfl, rfl⟩
  · have e : zst D z = -1 := dif_neg (fun h => hz ⟨h.1, by have := h.2; omega⟩)
    rw [e]
    have eh : zhs D z = false := decide_eq_false hz
    rw [eh] at Hhas
    clear e eh h a10 hlA hl hz
    generalize D.n = n at *
    go_enter Try.func21, Try.ntmps21
    go_wp2_with fail; (with_reducible refine (Hhas.out).mono ?_); rintro e w ⟨rfl, rfl⟩
    go_wp2
    go_ret
    exact ⟨rfl, rfl⟩
theorem zdown {w : World} {B p r : Nat} {Z : List Zm} {D : Dv} (h : DM w B p r Z D) :
    Calls Try.prog 26 #[.pointer (some ⟨p, 0, none⟩)] w fun e w' => e = .returned (.bool D.down) ∧ w = w' := by
  obtain ⟨_, _, _, _, _, _, c6⟩ := h.cells
  clear h
  go_enter Try.func26, Try.ntmps26
  go_wp2
  go_ret
  exact ⟨rfl, rfl⟩
def zarmd (D : Dv) (n : Int) : Dv := { D with left := if n < -1 then -1 else n }
set_option maxHeartbeats 2000000 in
theorem zarm {w : World} {B p r : Nat} {Z : List Zm} {D : Dv} (h : DM w B p r Z D) (n : Int) (hn : -9223372036854775808 ≤ n ∧ n ≤ 9223372036854775807) :
    Calls Try.prog 27 #[.pointer (some ⟨p, 0, none⟩), .int .i64 n] w fun e w' => e = .returned (.tuple #[]) ∧ DM w' B p r Z (zarmd D n) ∧ Chg (fun k => k = p) w w' := by
  obtain ⟨_, _, _, _, c4, _, _⟩ := h.cells
  have f4 := h.frz 4
  obtain ⟨a1, a2, a3, a4, a5, a6, l1, l2, a9, a10⟩ := h.ok
  have H := Lib.hid h
  have A := Lib.hid (And.intro a1 (And.intro a2 (And.intro a3 (And.intro a4 (And.intro a5 (And.intro a6 (And.intro a9 a10)))))))
  obtain ⟨n1, n2⟩ := hn
  clear h a1 a2 a3 a4 a5 a6 a9 a10 l1 l2
  unfold zarmd
  by_cases hz : n < -1
  · rw [if_pos hz]
    go_enter Try.func27, Try.ntmps27
    go_wp2
    go_end0
    obtain ⟨b1, b2, b3, b4, b5, b6, b7, b8⟩ := A.out
    exact ⟨rfl, H.out.putB 4 _ rfl rfl rfl ⟨b1, b2, b3, b4, b5, b6, by simp only; omega, by simp only; omega, b7, b8⟩, Chg.set _ _ _ _⟩
  · rw [if_neg hz]
    go_enter Try.func27, Try.ntmps27
    go_wp2
    go_end0
    obtain ⟨b1, b2, b3, b4, b5, b6, b7, b8⟩ := A.out
    exact ⟨rfl, H.out.putB 4 _ rfl rfl rfl ⟨b1, b2, b3, b4, b5, b6, by simp only; omega, by simp only; omega, b7, b8⟩, Chg.set _ _ _ _⟩
end Go.Proofs.Ytcgjkgcafkcgoaa
