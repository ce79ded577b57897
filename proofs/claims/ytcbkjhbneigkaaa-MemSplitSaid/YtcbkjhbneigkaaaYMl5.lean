/- Chapter 11: MemSplit: plain laws. -/
import Derived.Test.YtcbkjhbneigkaaaYMl2
namespace Go.Proofs.Ytcbkjhbneigkaaa
open Go.RowKit
set_option linter.unusedVariables false
set_option linter.unusedSimpArgs false

/-- all is what the old one and the young one have; the young one's numbers are above -/
structure Parted (A O Y : List ME) (lo : Int) : Prop where
  mem : ∀ e, e ∈ A ↔ e ∈ O ∨ e ∈ Y
  len : A.length = O.length + Y.length
  old : ∀ e ∈ O, e.s ≤ lo
  young : ∀ e ∈ Y, lo < e.s
theorem Parted.nil {O : List ME} {lo : Int} (h : ∀ e ∈ O, e.s ≤ lo) : Parted O O [] lo := ⟨fun e => by simp, by simp, h, fun e he => by cases he⟩
theorem Parted.put {A O Y : List ME} {lo : Int} (h : Parted A O Y lo) {e : ME} (he : lo < e.s) : Parted (mput A e) O (mput Y e) lo := by
  refine ⟨fun x => ?_, ?_, h.old, fun x hx => ?_⟩
  · rw [mput_mem, mput_mem, h.mem]
    constructor
    · rintro (h | h | h)
      · exact .inr (.inl h)
      · exact .inl h
      · exact .inr (.inr h)
    · rintro (h | h | h)
      · exact .inr (.inl h)
      · exact .inl h
      · exact .inr (.inr h)
  · rw [mput_len, mput_len, h.len]; omega
  · rcases mput_mem.1 hx with rfl | hx
    · exact he
    · exact h.young x hx
theorem Parted.bat {A O Y : List ME} {lo : Int} (h : Parted A O Y lo) {l : List OpD} {seq : Int} (hs : lo < seq) : ∀ n, Parted (mbat A l seq n) O (mbat Y l seq n) lo
  | 0 => h
  | n + 1 => (h.bat hs n).put (by show lo < seq + (n : Int); omega)
/-- the batches that the young one takes -/
def applyY (S : List ME × Int) (lo : Int) (b : BatD) : List ME × Int := if batRight b.q b.L = true ∧ max S.2 lo < b.q then (mbat S.1 b.L b.q b.L.length, b.q + b.L.length - 1) else S
def youngN (l : List BatD) (lo : Int) (k : Nat) : List ME × Int := (l.take k).foldl (fun S b => applyY S lo b) ([], -1)
theorem youngN_succ {l : List BatD} {lo : Int} {k : Nat} (h : k < l.length) : youngN l lo (k + 1) = applyY (youngN l lo k) lo l[k] := by
  unfold youngN
  rw [List.take_succ_eq_append_getElem h, List.foldl_append]; rfl
theorem applyY_yes {S : List ME × Int} {lo : Int} {b : BatD} (h1 : batRight b.q b.L = true) (h2 : max S.2 lo < b.q) : applyY S lo b = (mbat S.1 b.L b.q b.L.length, b.q + b.L.length - 1) := if_pos ⟨h1, h2⟩
theorem applyY_bad {S : List ME × Int} {lo : Int} {b : BatD} (h1 : batRight b.q b.L = false) : applyY S lo b = S := if_neg fun h => by rw [h1] at h; cases h.1
theorem applyY_old {S : List ME × Int} {lo : Int} {b : BatD} (h2 : b.q ≤ max S.2 lo) : applyY S lo b = S := if_neg fun h => by omega
theorem applyY_len {S : List ME × Int} {lo : Int} {b : BatD} : (applyY S lo b).1.length ≤ S.1.length + 64 := by
  unfold applyY
  split
  · rename_i h
    obtain ⟨_, _, h2, _, _⟩ := batRight_all h.1
    simp only [mbat_len]; omega
  · omega
theorem youngN_len (l : List BatD) (lo : Int) : ∀ k, k ≤ l.length → (youngN l lo k).1.length ≤ 64 * k
  | 0, _ => Nat.zero_le _
  | k + 1, h => by
    have := youngN_len l lo k (by omega)
    rw [youngN_succ (show k < l.length by omega)]
    have h2 := @applyY_len (youngN l lo k) lo (l[k]'(by omega))
    omega
/-- both at once: the whole, and old with young -/
theorem parted_all {l : List BatD} {cut : Nat} (hc : cut ≤ l.length) {O : List ME} {lo : Int} (hO : fillN l cut = (O, lo)) (hlo : -1 ≤ lo) (hol : ∀ e ∈ O, e.s ≤ lo) :
    ∀ k, k ≤ (l.drop cut).length → Parted (fillN l (cut + k)).1 O (youngN (l.drop cut) lo k).1 lo ∧ (fillN l (cut + k)).2 = max (youngN (l.drop cut) lo k).2 lo
  | 0, _ => by
    rw [Nat.add_zero, hO]
    refine ⟨Parted.nil hol, ?_⟩
    show lo = max (-1) lo
    omega
  | k + 1, hk => by
    obtain ⟨h1, h2⟩ := parted_all hc hO hlo hol k (by omega)
    have hlt : cut + k < l.length := by rw [List.length_drop] at hk; omega
    have hlt2 : k < (l.drop cut).length := by omega
    rw [show cut + (k + 1) = cut + k + 1 by omega, fillN_succ hlt, youngN_succ hlt2, List.getElem_drop]
    cases hr : batRight l[cut + k].q l[cut + k].L with
    | false => rw [applyB_bad hr, applyY_bad hr]; exact ⟨h1, h2⟩
    | true =>
      by_cases hs : (fillN l (cut + k)).2 < l[cut + k].q
      · rw [applyB_yes hr hs, applyY_yes hr (by rw [← h2]; exact hs)]
        obtain ⟨_, hl1, _, _, _⟩ := batRight_all hr
        refine ⟨h1.bat (by omega) _, ?_⟩
        show l[cut + k].q + (l[cut + k].L.length : Nat) - 1 = max (l[cut + k].q + (l[cut + k].L.length : Nat) - 1) lo
        omega
      · rw [applyB_old (by omega), applyY_old (by rw [← h2]; omega)]; exact ⟨h1, h2⟩
/-- what is told: the newer one first -/
theorem parted_got {A O Y : List ME} {lo : Int} (h : Parted A O Y lo) (hA : MRise A) (hO : MRise O) (hY : MRise Y) (u : ByteArray) (at' : Int) :
    (mgotB Y u at' = true ∧ mgot A u at' = mgot Y u at' ∧ mgotB A u at' = true) ∨ (mgotB Y u at' = false ∧ mgot A u at' = mgot O u at' ∧ mgotB A u at' = mgotB O u at') := by
  by_cases hy : mget u at' Y < Y.length
  · left
    obtain ⟨y1, y2⟩ := mgot_in (M := Y) hy rfl
    have hh := mget_hit u at' Y hy
    have hb := mget_best hY hy
    have hm := List.getElem_mem hy
    generalize Y[mget u at' Y] = e at *
    obtain ⟨hc, he⟩ := mget_some hA ((h.mem e).2 (.inr hm)) hh (fun f hf hfh => by
      rcases (h.mem f).1 hf with h1 | h1
      · refine .inr (newer_first ?_ ?_)
        · rw [(mhit_iff.1 hh).1, (mhit_iff.1 hfh).1]
        · have := h.old f h1; have := h.young e hm; omega
      · exact hb f h1 hfh)
    obtain ⟨a1, a2⟩ := mgot_in hc he
    exact ⟨y2, by rw [a1, y1], a2⟩
  · right
    have hyl := mget_le u at' Y
    obtain ⟨y1, y2⟩ := mgot_no (M := Y) (u := u) (at' := at') (by omega)
    have hno : ∀ f ∈ Y, mhit u at' f = false := fun f hf => by
      obtain ⟨j, hj, rfl⟩ := List.getElem_of_mem hf
      exact mget_before u at' Y j hj (by omega)
    refine ⟨y2, ?_⟩
    by_cases ho : mget u at' O < O.length
    · have hh := mget_hit u at' O ho
      have hb := mget_best hO ho
      have hm := List.getElem_mem ho
      obtain ⟨o1, o2⟩ := mgot_in (M := O) ho rfl
      generalize O[mget u at' O] = e at *
      obtain ⟨hc, he⟩ := mget_some hA ((h.mem e).2 (.inl hm)) hh (fun f hf hfh => by
        rcases (h.mem f).1 hf with h1 | h1
        · exact hb f h1 hfh
        · rw [hno f h1] at hfh; cases hfh)
      obtain ⟨a1, a2⟩ := mgot_in hc he
      exact ⟨by rw [a1, o1], by rw [a2, o2]⟩
    · have hol := mget_le u at' O
      obtain ⟨o1, o2⟩ := mgot_no (M := O) (u := u) (at' := at') (by omega)
      obtain ⟨a1, a2⟩ := mgot_no (M := A) (u := u) (at' := at') (mget_none fun f hf => by
        rcases (h.mem f).1 hf with h1 | h1
        · obtain ⟨j, hj, rfl⟩ := List.getElem_of_mem h1
          exact mget_before u at' O j hj (by omega)
        · exact hno f h1)
      exact ⟨by rw [a1, o1], by rw [a2, o2]⟩
theorem BTs.cut {w : World} {a : Option Addr} {l : List BatD} (h : BTs w a l) (c : Nat) : BTs w a (l.take c) := by
  refine ⟨fun hl => ?_, fun x hx => h.2 x (List.mem_of_mem_take hx)⟩
  rw [List.length_take] at hl
  obtain ⟨b, off, rfl, hc⟩ := h.1 (by omega)
  refine ⟨b, off, rfl, fun i hi => ?_⟩
  rw [List.length_take] at hi
  rw [List.getElem_take]
  exact hc i (by omega)
theorem BTs.rest {w : World} {x : Addr} {l : List BatD} (h : BTs w (some x) l) (c : Nat) : BTs w (some (x.add (c * 2))) (l.drop c) := by
  refine ⟨fun hl => ?_, fun x hx => h.2 x (List.mem_of_mem_drop hx)⟩
  rw [List.length_drop] at hl
  obtain ⟨b, off, e, hc⟩ := h.1 (by omega)
  cases e
  refine ⟨b, off + c * 2, by rw [add_none], fun i hi => ?_⟩
  rw [List.length_drop] at hi
  rw [List.getElem_drop]
  have := hc (c + i) (by omega)
  rw [show off + c * 2 + i * 2 = off + (c + i) * 2 by omega]
  exact this
theorem fillN_take (l : List BatD) (c k : Nat) (h : k ≤ c) : fillN (l.take c) k = fillN l k := by
  unfold fillN
  rw [List.take_take, Nat.min_eq_left h]
end Go.Proofs.Ytcbkjhbneigkaaa
