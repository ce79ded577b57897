/- Chapter 09: ReclogPlaces: the plain part. -/
import Derived.Test.YtmhklmecpbdljaaDoorYJb
import Derived.Test.YtmhklmecpbdljaaDoorYJe
namespace Go.Proofs.YtmhklmecpbdljaaDoor
open Go.RowKit
set_option linter.unusedVariables false
set_option linter.unusedSimpArgs false

def pdv (L : List UInt8) (st k : Nat) : Dv := ⟨3, 400, 3, [⟨0, [], 0⟩, ⟨st, L, 0⟩, ⟨0, [], 0⟩], -1, k, false⟩
theorem pdv_rm (L : List UInt8) (st k : Nat) : zrm (pdv L st k) ((1 : Nat) : Int) = if st = 2 then 0 else (400 : Int) - (L.length : Int) := by
  rw [zrm_at 1 (show 1 < (pdv L st k).A.length from by show 1 < 3; decide)]; rfl
theorem pdv_pt (L : List UInt8) (st k : Nat) : zpt (pdv L st k) ((1 : Nat) : Int) = (L.length : Nat) := by
  rw [zpt_at 1 (show 1 < (pdv L st k).A.length from by show 1 < 3; decide)]; rfl
theorem pdv_app (L b : List UInt8) (st k : Nat) (h1 : st ≠ 2) (h2 : L.length + b.length ≤ 400) : zapp (pdv L st k) ((1 : Nat) : Int) b = (pdv (L ++ b) (if L.length + b.length = 400 then 2 else 1) (k + 1), 0) := by
  have e : zapp (pdv L st k) ((1 : Nat) : Int) b = zappA (pdv L st k) 1 ⟨st, L, 0⟩ b := zapp_in (D := pdv L st k) (k := 1) rfl (by show 1 < 3; decide) (by show 1 < 3; decide) b
  rw [e]
  unfold zappA
  rw [if_neg h1, if_neg (by
    rintro ⟨hs, h⟩
    have hs : st = 0 := hs
    subst hs
    have : zopn (pdv L 0 k).A = 0 := rfl
    rw [this] at h
    exact absurd (show (3 : Nat) ≤ 0 from h) (by decide)), if_neg (show ¬ (pdv L st k).size < L.length + b.length from Nat.not_lt.2 h2)]
  rfl
theorem pdv_read1 (L : List UInt8) (st k : Nat) (i j : Int) : zread (pdv L st k) 1 i j = zrdb L i j := zread_in (D := pdv L st k) (m := 1) rfl (by show 1 < 3; decide) (by show 1 < 3; decide) i j
theorem zrdb_nil (at' s : Int) (h : 0 < s) : zrdb [] at' s = ([], 70) := if_pos (by simp only [List.length_nil]; omega)
theorem pdv_read (L : List UInt8) (st k : Nat) (z at' s : Int) (hs : 0 < s) (hz : z ≠ 1) : zread (pdv L st k) z at' s = ([], 70) := by
  rcases zcases (pdv L st k) z with h | ⟨h1, m, rfl, h2⟩
  · rw [zread_bad h]
    have h' : z < 0 ∨ ((pdv L st k).n : Int) ≤ z := by
      rcases h with h | h
      · cases h
      · exact h
    rw [zfnd_out rfl h']
  · have h3 : m < 3 := h2
    have e := zread_in (D := pdv L st k) (m := m) rfl h2 h2 at' s
    rw [e]
    have hm : m = 0 ∨ m = 2 := by omega
    rcases hm with rfl | rfl
    · exact zrdb_nil _ _ hs
    · exact zrdb_nil _ _ hs
def fsz (n : Int) : Int := ((4 + (num n.toNat).length + n.toNat : Nat) : Int)
theorem fsz_pos (n : Int) : 0 < fsz n := by unfold fsz; omega
theorem lread_no {D : Dv} {z at' n : Int} (h : (n < 0 ∨ 65536 < n) ∨ zread D z at' (fsz n) = ([], 70)) : lread D z at' n = ([], 70) := by
  unfold lread
  by_cases h1 : n < 0 ∨ 65536 < n
  · rw [if_pos h1]
  · rw [if_neg h1]
    rcases h with h | h
    · exact absurd h h1
    · unfold fsz at h
      rw [h, if_pos (by decide)]
theorem lread_at {D : Dv} {z at' : Int} {n : Nat} {I : List UInt8} (hn : n ≤ 65536) (h : zread D z at' (fsz n) = (I, 0)) : lread D z at' (n : Nat) = match oneP I with | none => ([], 22) | some (x, e) => if e = I.length ∧ x.length = n then (x, 0) else ([], 22) := by
  unfold lread
  rw [if_neg (by omega)]
  unfold fsz at h
  rw [h, if_neg (by simp)]
  rfl
theorem scan_one {I : List UInt8} {K : List (List UInt8)} (h : ScanIs I K) : oneP I = K.head?.map fun t => (t, (frB t).length) := by
  obtain ⟨h1, r, rfl, h2⟩ := h
  cases K with
  | nil => exact h2
  | cons t K =>
    rw [List.flatMap_cons, List.append_assoc]
    exact one_of (h1 t (List.mem_cons_self ..)) _
theorem lread_whole {D : Dv} {z at' : Int} {n : Nat} {I t : List UInt8} (hn : n ≤ 65536) (h : zread D z at' (fsz n) = (I, 0)) (hs : ScanIs I [t]) (he : (frB t).length = I.length) (ht : t.length = n) : lread D z at' (n : Nat) = (t, 0) := by
  rw [lread_at hn h, scan_one hs]
  exact if_pos ⟨he, ht⟩
theorem lread_not {D : Dv} {z at' : Int} {n : Nat} {I : List UInt8} {K : List (List UInt8)} (hn : n ≤ 65536) (h : zread D z at' (fsz n) = (I, 0)) (hs : ScanIs I K) (hno : K.length ≠ 1 ∨ ∃ t, K = [t] ∧ ((frB t).length ≠ I.length ∨ t.length ≠ n)) : lread D z at' (n : Nat) = ([], 22) := by
  rw [lread_at hn h, scan_one hs]
  match K, hno, hs with
  | [], _, _ => rfl
  | [t], hno, hs =>
    rcases hno with h | ⟨u, hu, h⟩
    · simp at h
    · obtain rfl : t = u := by simpa using hu
      exact if_neg (fun hh => by rcases h with h | h; exact h hh.1; exact h hh.2)
  | t :: u :: K, hno, hs =>
    refine if_neg (fun hh => ?_)
    obtain ⟨_, r, hr, _⟩ := hs
    have := congrArg List.length hr
    rw [List.flatMap_cons, List.flatMap_cons] at this
    simp only [List.length_append] at this
    have h5 := frB_pos u
    have := hh.1
    omega
theorem fsz_frB (b : List UInt8) : fsz ((b.length : Nat) : Int) = ((frB b).length : Nat) := by
  unfold fsz; rw [frB_len]; rfl
/-- a record that was appended is read where it was laid -/
theorem pdv_back (L b : List UInt8) (st k : Nat) (hb : b.length ≤ 300) : lread (pdv (L ++ frB b) st k) 1 (L.length : Nat) (b.length : Nat) = (b, 0) := by
  have hz : zread (pdv (L ++ frB b) st k) 1 (L.length : Nat) (fsz (b.length : Nat)) = (frB b, 0) := by
    rw [pdv_read1, fsz_frB]
    unfold zrdb
    rw [if_neg (by rw [List.length_append]; omega)]
    simp
  refine lread_whole (by omega) hz (t := b) ?_ rfl rfl
  have := ScanIs.one (t := b) (by omega) (r := []) rfl
  rwa [List.append_nil] at this
theorem zrdb_is (L : List UInt8) (i s : Nat) (h : i + s ≤ L.length) : zrdb L (i : Nat) (s : Nat) = ((L.drop i).take s, 0) := if_neg (by omega)
theorem fsz_ge (n : Int) : n ≤ fsz n := by unfold fsz; omega
theorem fsz_nat (n : Nat) : fsz (n : Nat) = ((4 + (num n).length + n : Nat) : Int) := rfl
theorem pdv_bad {L : List UInt8} {st k : Nat} {z i n : Int} (hL : L.length ≤ 400) (h : z ≠ 1 ∨ i < 0 ∨ n < 0 ∨ 400 < n ∨ (L.length : Int) < i ∨ (L.length : Int) - i < fsz n) : lread (pdv L st k) z i n = ([], 70) := by
  refine lread_no ?_
  by_cases hz : z = 1
  · subst hz
    by_cases hn : n < 0 ∨ 65536 < n
    · exact .inl hn
    · refine .inr ?_
      rw [pdv_read1]
      refine if_pos ?_
      have h1 := fsz_ge n
      have h2 := fsz_pos n
      omega
  · exact .inr (pdv_read _ _ _ _ _ _ (fsz_pos n) hz)
theorem ob_two9 {w : World} {B : Nat} {av : Option Addr} {cv : Nat} {l : List UInt8} (h : OB w B (.slice av l.length cv) l) : (av = none ∧ cv = 0 ∧ l = []) ∨ ∃ g, av = some ⟨g, 0, none⟩ ∧ l.length ≤ cv ∧ cv ≤ maxLen := by
  rcases h.2 with ⟨h1, h2⟩ | ⟨g, cap, cur, hv, _, _, hc, hm, _⟩
  · simp only [Value.slice.injEq] at h1
    exact .inl ⟨h1.1, h1.2.2, List.eq_nil_of_length_eq_zero h2⟩
  · simp only [Value.slice.injEq] at hv
    obtain ⟨rfl, _, rfl⟩ := hv
    exact .inr ⟨g, rfl, hc, hm⟩
end Go.Proofs.YtmhklmecpbdljaaDoor
