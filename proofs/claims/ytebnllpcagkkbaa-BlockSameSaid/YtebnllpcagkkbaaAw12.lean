/- awake of chapter 12; BlockShares' walk. -/
import Derived.Test.YtebnllpcagkkbaaBk3
namespace Go.Proofs.Ytebnllpcagkkbaa
open Go.RowKit
set_option linter.unusedVariables false
set_option linter.unusedSimpArgs false

def twoP : List PairD := [⟨⟨#[97, 98]⟩, ⟨#[49]⟩⟩, ⟨⟨#[97, 98, 99]⟩, ⟨#[50]⟩⟩]
theorem twoP_rises : Rises twoP 2 := by
  intro i h0 h1
  obtain rfl : i = 1 := by omega
  unfold leB
  rw [Lib.toList_data, Lib.toList_data]
  decide
theorem twoP_build : buildB 16 twoP = [0, 2, 1, 97, 98, 49, 2, 1, 1, 99, 50, 0, 0, 0, 0, 0, 0, 0, 1, 16] := by decide
theorem twoP_prs (w : World) (T : TypeId) : PRs (w.alloc (.cells #[.string ⟨#[97, 98]⟩, .string ⟨#[49]⟩, .string ⟨#[97, 98, 99]⟩, .string ⟨#[50]⟩] T)) (some ⟨w.heap.size, 0, none⟩) twoP := by
  refine ⟨fun _ => ⟨_, _, rfl, fun i hi => ?_⟩, fun x hx => ?_⟩
  · have hh := heap_alloc_new w (.cells #[.string ⟨#[97, 98]⟩, .string ⟨#[49]⟩, .string ⟨#[97, 98, 99]⟩, .string ⟨#[50]⟩] T)
    have hi : i = 0 ∨ i = 1 := by have : i < 2 := hi; omega
    rcases hi with rfl | rfl
    · exact ⟨by rw [cell_of_row _ _ _ _ _ _ hh]; rfl, by rw [cell_of_row _ _ _ _ _ _ hh]; rfl⟩
    · exact ⟨by rw [cell_of_row _ _ _ _ _ _ hh]; rfl, by rw [cell_of_row _ _ _ _ _ _ hh]; rfl⟩
  · unfold twoP at hx
    simp only [List.mem_cons, List.not_mem_nil, or_false] at hx
    rcases hx with rfl | rfl
    · exact ⟨by decide, by decide⟩
    · exact ⟨by decide, by decide⟩
/-- Build of pairs that rise, in plain words -/
theorem build_yes {w : World} {a : Option Addr} {c : Nat} {l : List PairD} (h : PRs w a l) (every : Nat) (he1 : 1 ≤ every) (he2 : every ≤ 64) (hl : l.length ≤ 1000000) (hsz : ∀ x ∈ l, x.key.size ≤ 1000000 ∧ x.val.size ≤ 1000000) (hbl : (bodyB every l l.length).length < 4294967296) (hr : Rises l l.length) :
    Calls Try.prog 15 #[.slice a l.length c, .int .i64 every] w fun e w' => ∃ g, e = .returned (.tuple #[.slice (some ⟨g, 0, none⟩) (buildB every l).length (buildB every l).length, .int .i64 0]) ∧ OB w' w.heap.size (.slice (some ⟨g, 0, none⟩) (buildB every l).length (buildB every l).length) (buildB every l) ∧ Below w.heap.size w w' := by
  refine (build_any h every he1 he2 hl hsz hbl).mono ?_
  rintro e w' (⟨_, v, rfl, ho, ⟨g, rfl⟩, hb⟩ | ⟨h2, _⟩)
  · exact ⟨g, rfl, ho, hb⟩
  · exact absurd hr h2
theorem build_no {w : World} {a : Option Addr} {c : Nat} {l : List PairD} (h : PRs w a l) (every : Nat) (he1 : 1 ≤ every) (he2 : every ≤ 64) (hl : l.length ≤ 1000000) (hsz : ∀ x ∈ l, x.key.size ≤ 1000000 ∧ x.val.size ≤ 1000000) (hbl : (bodyB every l l.length).length < 4294967296) (hr : ¬ Rises l l.length) :
    Calls Try.prog 15 #[.slice a l.length c, .int .i64 every] w fun e w' => e = .returned (.tuple #[.slice none 0 0, .int .i64 31]) ∧ Below w.heap.size w w' := by
  refine (build_any h every he1 he2 hl hsz hbl).mono ?_
  rintro e w' (⟨h2, _⟩ | ⟨_, h1, h2⟩)
  · exact absurd h2 hr
  · exact ⟨h1, h2⟩

set_option maxRecDepth 100000 in
set_option maxHeartbeats 2000000 in
theorem awake12 (w : World) : Calls Try.prog 9 #[] w fun e w' => e = .returned (.bool true) ∧ Below w.heap.size w w' := by
  have hb : ∀ (T : TypeId), Calls Try.prog 15 #[.slice (some ⟨w.heap.size, 0, none⟩) 2 2, .int .i64 16] (w.alloc (.cells #[.string ⟨#[97, 98]⟩, .string ⟨#[49]⟩, .string ⟨#[97, 98, 99]⟩, .string ⟨#[50]⟩] T)) fun e w' => ∃ g, e = .returned (.tuple #[.slice (some ⟨g, 0, none⟩) 20 20, .int .i64 0]) ∧ RB w' (.slice (some ⟨g, 0, none⟩) 20 20) [0, 2, 1, 97, 98, 49, 2, 1, 1, 99, 50, 0, 0, 0, 0, 0, 0, 0, 1, 16] ∧ Below w.heap.size w w' := fun T => by
    refine (build_yes (c := 2) (twoP_prs w T) 16 (by decide) (by decide) (by decide) (by decide) (by decide) twoP_rises).mono ?_
    rintro e w' ⟨g, h1, h2, h3⟩
    rw [twoP_build] at h1 h2
    exact ⟨g, h1, h2.reads, ((Below.refl _ w).alloc (Nat.le_refl _) _).trans (h3.mono (by simp))⟩
  have Hb := Lib.hid hb
  have hsh := fun W => shared_any ⟨#[97, 98, 99]⟩ ⟨#[97, 98, 100]⟩ W (by decide) (by decide) 2 (by decide)
  have Hsh := Lib.hid hsh
  have heq : ((⟨#[0, 2, 1, 97, 98, 49, 2, 1, 1, 99, 50, 0, 0, 0, 0, 0, 0, 0, 1, 16]⟩ : ByteArray).toList == (⟨#[0, 2, 1, 97, 98, 49, 2, 1, 1, 99, 50, 0, 0, 0, 0, 0, 0, 0, 1, 16]⟩ : ByteArray).toList) = true := by simp
  clear hb hsh
  go_enter Try.func9, Try.ntmps9
  go_wp2_with fail; (with_reducible refine (Hb.out _).mono ?_); rintro e w1 ⟨g, rfl, hr1, hb1⟩
  have hcv := hr1.string
  have Hb1 := Lib.hid hb1
  clear hr1 hb1
  go_wp2_with fail; (with_reducible refine (Hsh.out _).mono ?_); rintro e w2 ⟨rfl, hb2⟩
  go_wp2
  go_ret
  exact ⟨rfl, bnext Hb1.out hb2⟩

set_option maxRecDepth 100000 in
set_option maxHeartbeats 4000000 in
theorem bshares_yes (a b : ByteArray) (w : World) (ha : a.size ≤ maxLen) (hb : b.size ≤ maxLen) :
    Calls Try.prog 3 #[.string a, .string b] w fun e w' => e = .returned (.bool true) ∧ Below w.heap.size w w' := by
  obtain ⟨n, hn⟩ : ∃ n, sharedB a b = n := ⟨_, rfl⟩
  have hs1 := fun W => shared_any a b W ha hb n (by rw [hn])
  have hs2 := fun W => shared_any b a W hb ha n (by rw [← hn]; unfold sharedB; rw [sharedL_comm])
  have hs3 := fun W => refshared_any a b W ha hb n (by rw [hn])
  have Hs1 := Lib.hid hs1
  have Hs2 := Lib.hid hs2
  have Hs3 := Lib.hid hs3
  have hna : n ≤ a.size := by rw [← hn, ← dataLen a]; exact sharedL_le _ _
  have hnb : n ≤ b.size := by rw [← hn, ← dataLen b]; exact sharedL_le' _ _
  have ht : a.data.toList.take n = b.data.toList.take n := by rw [← hn]; exact sharedL_take _ _
  have heq : ((a.extract 0 n).toList == (b.extract 0 n).toList) = true := by
    rw [beq_iff_eq, Lib.toList_data, Lib.toList_data, ByteArray.data_extract, ByteArray.data_extract, Array.toList_extract, Array.toList_extract]
    simpa [List.extract] using ht
  clear hs1 hs2 hs3 hn ht
  unfold maxLen at ha hb
  by_cases h1 : a.size ≤ 1000 ∧ b.size ≤ 1000
  case neg =>
    have h2 : 1000 < a.size ∨ (a.size ≤ 1000 ∧ 1000 < b.size) := by omega
    clear h1 heq
    rcases h2 with h2 | ⟨h2, h3⟩
    all_goals
      go_enter Try.func3, Try.ntmps3
      go_wp2_with fail; (with_reducible refine (awake12 _).mono ?_); rintro e w2 ⟨rfl, hb2⟩
      go_wp2
      go_ret
      exact ⟨rfl, hb2⟩
  case pos =>
    obtain ⟨h1, h2⟩ := h1
    have hnaI : (n : Int) ≤ (a.size : Int) := by omega
    have hnbI : (n : Int) ≤ (b.size : Int) := by omega
    have hn0I : (0 : Int) ≤ (n : Int) := by omega
    go_enter Try.func3, Try.ntmps3
    go_wp2_with fail; (with_reducible refine (Hs1.out _).mono ?_); rintro e w1 ⟨rfl, hb1⟩
    have Bg := bnext_grow (Below.refl w1.heap.size w1)
    go_upto_region 4 with fail
    refine wp_region_quiet_below (by kernel_rfl) (by kernel_rfl) ?_; (repeat (go_big_quiet_step ((first
      | (go_at_call 11; (with_reducible refine Calls.regrown_of (Hs3.out _)))
      | (go_at_call 10; (with_reducible refine Calls.regrown_of (Hs2.out _)))
      | (go_at_call 9; (with_reducible refine Calls.regrown_of (awake12 _))))))); refine wpQuiet_nil ?_; rintro _ ⟨pq, rfl⟩
    go_wp2
    go_ret
    exact ⟨rfl, bnext hb1 (Bg _ _)⟩
end Go.Proofs.Ytebnllpcagkkbaa
