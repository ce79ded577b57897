/- A device of zones: reading. -/
import Derived.Test.YtijgbciaifdbeaaZb
namespace Go.Proofs.Ytijgbciaifdbeaa
open Go.RowKit
set_option linter.unusedVariables false
set_option linter.unusedSimpArgs false

/-- what a reading of a zone's bytes tells -/
def zrdb (b : List UInt8) (at' n : Int) : List UInt8 × Int := if at' < 0 ∨ n < 0 ∨ (b.length : Int) < at' ∨ (b.length : Int) - at' < n then ([], 70) else ((b.drop at'.toNat).take n.toNat, 0)
def zread (D : Dv) (z at' n : Int) : List UInt8 × Int :=
  if zfnd D z ≠ 0 then ([], zfnd D z) else if h : z.toNat < D.A.length then zrdb D.A[z.toNat].b at' n else ([], 70)
theorem zread_bad {D : Dv} {z at' n : Int} (h : D.down = true ∨ z < 0 ∨ (D.n : Int) ≤ z) : zread D z at' n = ([], zfnd D z) := by
  unfold zread
  have : zfnd D z ≠ 0 := by
    unfold zfnd
    split
    · decide
    · rw [if_pos (by rcases h with h | h | h; contradiction; exact .inl h; exact .inr h)]; decide
  rw [if_pos this]
theorem zread_in {D : Dv} {m : Nat} (hd : D.down = false) (hm : m < D.n) (hA : m < D.A.length) (at' n : Int) : zread D m at' n = zrdb D.A[m].b at' n := by
  unfold zread
  rw [if_neg (by rw [zfnd_in hd hm]; simp), dif_pos (by simpa using hA)]
  rfl
theorem zcases (D : Dv) (z : Int) : (D.down = true ∨ z < 0 ∨ (D.n : Int) ≤ z) ∨ (D.down = false ∧ ∃ m : Nat, z = m ∧ m < D.n) := by
  cases h : D.down with
  | true => exact .inl (.inl rfl)
  | false =>
    by_cases hz : z < 0 ∨ (D.n : Int) ≤ z
    · exact .inl (.inr hz)
    · exact .inr ⟨rfl, z.toNat, by omega, by omega⟩
theorem rb_sub {w : World} {B g c : Nat} {l : List UInt8} (h : OB w B (.slice (some ⟨g, 0, none⟩) l.length c) l) (i n : Nat) (hi : i + n ≤ l.length) : RB w (.slice (some ⟨g, i, none⟩) n (c - i)) ((l.drop i).take n) := by
  have hr := h.reads
  have hc := hr.capl
  have h1 := rb_drop (c' := c - i) (n := i) hr (by omega) (by omega)
  have e : l.length - i = (l.drop i).length := by rw [List.length_drop]
  rw [e] at h1
  have h2 := rb_take (c' := c - i) (n := n) h1 (by rw [List.length_drop]; omega) (by omega)
  rw [Nat.zero_add] at h2
  exact h2
theorem DM.zn2 {w : World} {B p r : Nat} {Z : List Zm} {D : Dv} (h : DM w B p r Z D) (k : Nat) (hk : k < Z.length) :
    (Z[k].v = .slice none 0 0 ∧ Z[k].z.b = []) ∨ ∃ g c, Z[k].v = .slice (some ⟨g, 0, none⟩) Z[k].z.b.length c ∧ Z[k].z.b.length ≤ c ∧ c ≤ maxLen ∧ g ≠ p ∧ g ≠ r := by
  have ho := h.ent _ (List.getElem_mem hk)
  rcases ho.2 with ⟨h1, h2⟩ | ⟨g, cap, cur, hv, _, _, hc, hm, _⟩
  · exact .inl ⟨h1, List.eq_nil_of_length_eq_zero h2⟩
  · have hof := h.off _ (List.getElem_mem hk)
    rw [hv] at hof
    exact .inr ⟨g, cap, hv, hc, hm, fun e => hof.1 (by rw [e]; rfl), fun e => hof.2 (by rw [e]; rfl)⟩
set_option maxRecDepth 100000 in
set_option maxHeartbeats 4000000 in
theorem zreads {w : World} {B p r : Nat} {Z : List Zm} {D : Dv} (h : DM w B p r Z D) (z at' n : Int) :
    Calls Try.prog 10 #[.pointer (some ⟨p, 0, none⟩), .int .i64 z, .int .i64 at', .int .i64 n] w fun e w' => ∃ v, e = .returned (.tuple #[v, .int .i64 (zread D z at' n).2]) ∧ OB w' w.heap.size v (zread D z at' n).1 ∧ Below w.heap.size w w' := by
  rcases zcases D z with hz | ⟨hd, m, rfl, hm⟩
  · have Hf := Lib.hid (zfind_bad h z hz)
    rw [zread_bad hz]
    have he : zfnd D z = 74 ∨ zfnd D z = 70 := by
      unfold zfnd
      split
      · exact .inl rfl
      · rw [if_pos (by rcases hz with h | h | h; contradiction; exact .inl h; exact .inr h)]; exact .inr rfl
    clear hz h
    generalize zfnd D z = e0 at *
    rcases he with rfl | rfl
    all_goals
      go_enter Try.func10, Try.ntmps10
      go_wp2_with fail; (with_reducible refine (Hf.out).mono ?_); rintro e w ⟨rfl, rfl⟩
      go_wp2
    · refine bodyPost_ret (v := .tuple #[.slice none 0 0, .int .i64 74]) (by simp [results, Try.results10, go_sem]) rfl ?_
      exact ⟨_, rfl, OB.nil _ _, Below.refl _ _⟩
    · refine bodyPost_ret (v := .tuple #[.slice none 0 0, .int .i64 70]) (by simp [results, Try.results10, go_sem]) rfl ?_
      exact ⟨_, rfl, OB.nil _ _, Below.refl _ _⟩
  · have Hf := Lib.hid (zfind_in h m hd hm)
    have hlz : m < Z.length := by rw [h.len]; exact hm
    have hlA : m < D.A.length := by rw [h.lenA]; exact hm
    rw [zread_in hd hm hlA, ← h.at m hlz]
    have hok := h.ok.zs _ (by rw [← h.abs]; exact List.mem_map.2 ⟨Z[m], List.getElem_mem hlz, rfl⟩)
    have hs2 := h.ok.s2
    have hbl := hok.len
    obtain ⟨_, _, _, _, d0, d1, d2⟩ := h.zn m hlz
    have hz2 := h.zn2 m hlz
    have hO := h.ent _ (List.getElem_mem hlz)
    obtain ⟨x0, x1, x2⟩ := zrow_at Z m hlz
    have hcell : w.cell? ⟨r, m * 3 + 1, none⟩ = some Z[m].v := by
      rw [World.ownsRow.cellAt h.row _ (by have := h.len; omega)]; exact x1
    clear h hd hok d0 d1 d2 x0 x1 x2 hlA
    generalize Z[m].v = v at *
    generalize Z[m].z.b = b at *
    have hbl2 : b.length ≤ 65536 := by omega
    clear hlz hm hs2 hbl
    by_cases hbad : at' < 0 ∨ n < 0 ∨ (b.length : Int) < at' ∨ (b.length : Int) - at' < n
    · have e : zrdb b at' n = ([], 70) := if_pos hbad
      rw [e]
      have h4 : at' < 0 ∨ (0 ≤ at' ∧ n < 0) ∨ (0 ≤ at' ∧ 0 ≤ n ∧ (b.length : Int) < at') ∨ (0 ≤ at' ∧ 0 ≤ n ∧ at' ≤ (b.length : Int) ∧ (b.length : Int) - at' < n) := by omega
      have hv : ∃ a c, v = .slice a b.length c := by
        rcases hz2 with ⟨rfl, rfl⟩ | ⟨g, c, rfl, _⟩
        · exact ⟨none, 0, rfl⟩
        · exact ⟨_, _, rfl⟩
      obtain ⟨a, c, rfl⟩ := hv
      clear e hbad hz2 hO
      generalize b.length = bl at *
      rcases h4 with h1 | ⟨h1, h2⟩ | ⟨h1, h2, h3⟩ | ⟨h1, h2, h3, h4⟩
      all_goals
        go_enter Try.func10, Try.ntmps10
        go_wp2_with fail; (with_reducible refine (Hf.out).mono ?_); rintro e w ⟨rfl, rfl⟩
        go_wp2
        refine bodyPost_ret (v := .tuple #[.slice none 0 0, .int .i64 70]) (by simp [results, Try.results10, go_sem]) rfl ?_
        exact ⟨_, rfl, OB.nil _ _, Below.refl _ _⟩
    · have e : zrdb b at' n = ((b.drop at'.toNat).take n.toNat, 0) := if_neg hbad
      rw [e]
      obtain ⟨i, rfl⟩ := Int.eq_ofNat_of_zero_le (show 0 ≤ at' by omega)
      obtain ⟨k, rfl⟩ := Int.eq_ofNat_of_zero_le (show 0 ≤ n by omega)
      have hik : i + k ≤ b.length := by omega
      clear e hbad
      rcases hz2 with ⟨rfl, rfl⟩ | ⟨g, c, rfl, hc, hcm, _⟩
      · simp only [List.length_nil] at hik
        obtain rfl : i = 0 := by omega
        obtain rfl : k = 0 := by omega
        have Hc := Lib.hid (clone_any (RB.nil w none 0) (by simp))
        clear hO hik
        go_enter Try.func10, Try.ntmps10
        go_wp2_with fail; (with_reducible refine (Hf.out).mono ?_); rintro e w ⟨rfl, rfl⟩
        go_wp2_with fail; (with_reducible refine (Hc.out).mono ?_); rintro e w2 ⟨v2, rfl, ho2, hb2, _, a2, n2, c2, rfl, _⟩
        go_wp2
        refine bodyPost_ret (v := .tuple #[.slice a2 n2 c2, .int .i64 0]) (by simp [results, Try.results10, go_sem]) rfl ?_
        exact ⟨_, rfl, ho2, hb2⟩
      · unfold maxLen at hcm
        rcases Nat.lt_or_ge i c with hci | hci
        · have hrb := rb_sub hO i k hik
          have Hc := Lib.hid (clone_any hrb (by rw [List.length_take, List.length_drop]; omega))
          clear hrb hO
          generalize b.length = bl at *
          go_enter Try.func10, Try.ntmps10
          go_wp2_with fail; (with_reducible refine (Hf.out).mono ?_); rintro e w ⟨rfl, rfl⟩
          go_wp2_with fail; (with_reducible refine (Hc.out).mono ?_); rintro e w2 ⟨v2, rfl, ho2, hb2, _, a2, n2, c2, rfl, _⟩
          go_wp2
          refine bodyPost_ret (v := .tuple #[.slice a2 n2 c2, .int .i64 0]) (by simp [results, Try.results10, go_sem]) rfl ?_
          exact ⟨_, rfl, ho2, hb2⟩
        · obtain rfl : c = i := by omega
          obtain rfl : k = 0 := by omega
          have e0 : (List.take (Int.toNat ((0 : Nat) : Int)) (List.drop (Int.toNat ((c : Nat) : Int)) b)) = [] := rfl
          rw [e0]
          have Hc := Lib.hid (clone_any (RB.nil w (some ⟨g, 0, none⟩) 0) (by simp))
          clear hO e0
          generalize b.length = bl at *
          go_enter Try.func10, Try.ntmps10
          go_wp2_with fail; (with_reducible refine (Hf.out).mono ?_); rintro e w ⟨rfl, rfl⟩
          go_wp2_with fail; (with_reducible refine (Hc.out).mono ?_); rintro e w2 ⟨v2, rfl, ho2, hb2, _, a2, n2, c2, rfl, _⟩
          go_wp2
          refine bodyPost_ret (v := .tuple #[.slice a2 n2 c2, .int .i64 0]) (by simp [results, Try.results10, go_sem]) rfl ?_
          exact ⟨_, rfl, ho2, hb2⟩
end Go.Proofs.Ytijgbciaifdbeaa
