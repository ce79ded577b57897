/- The document's list of chapter 05: Above, Below. -/
import Derived.Test.YthpafhimmhacfaaSkRf
namespace Go.Proofs.Ythpafhimmhacfaa
open Go.RowKit
set_option linter.unusedVariables false
set_option linter.unusedSimpArgs false

/-- is the entry's key above k, or k itself, if same? -/
def upE (same : Bool) (k y : Int) : Prop := k < y ∨ (same = true ∧ y = k)
def upI (L : List (E3 Int Int)) (same : Bool) (k : Int) : Nat := if same = true then ceilE L k else nextE L k
def dnE (same : Bool) (k y : Int) : Prop := y < k ∨ (same = true ∧ y = k)
def dnI (L : List (E3 Int Int)) (same : Bool) (k : Int) : Nat := if same = true then floorE L k else prevE L k
theorem cut_lt {L : List (E3 Int Int)} (hr : ERise ilt L) (k : Int) (j : Nat) (hj : j < L.length) : (j < cutE ilt k L ↔ L[j].k < k) ∧ (hI L k = true → (j = cutE ilt k L ↔ L[j].k = k)) ∧ (hI L k = false → L[j].k ≠ k) := by
  have h1 : j < cutE ilt k L → L[j].k < k := fun h => of_decide_eq_true (cutE_below (lt := ilt) k L j hj h)
  have h2 : cutE ilt k L ≤ j → ¬ L[j].k < k := fun h => of_decide_eq_false (cutE_above ilt_ord k L hr j hj h)
  refine ⟨⟨h1, fun h => ?_⟩, fun hh => ⟨fun e => ?_, fun e => ?_⟩, fun hh e => ?_⟩
  · rcases Nat.lt_or_ge j (cutE ilt k L) with h3 | h3
    · exact h3
    · exact absurd h (h2 h3)
  · obtain ⟨hc, hk⟩ := hasE_true.1 hh
    subst e; exact hk
  · have := cutE_at ilt_ord hr j hj
    rw [e] at this; exact this.symm
  · have := hasE_at ilt_ord hr j hj
    rw [e, show hasE L (cutE ilt k L) k = false from hh] at this; cases this
theorem upI_hit {L : List (E3 Int Int)} (hr : ERise ilt L) (same : Bool) (k : Int) (n : Nat) (hn : n < L.length) (h : upE same k L[n].k) (hall : ∀ j (hj : j < L.length), j < n → ¬ upE same k L[j].k) : upI L same k = n := by
  obtain ⟨a1, a2, a3⟩ := cut_lt hr k n hn
  have hc := cutE_le ilt k L
  unfold upE at h hall
  have hcn : cutE ilt k L ≤ n := by
    rcases Nat.lt_or_ge n (cutE ilt k L) with h3 | h3
    · have := a1.1 h3; omega
    · exact h3
  unfold upI
  cases same with
  | true =>
    rw [if_pos rfl]
    show cutE ilt k L = n
    rcases Nat.eq_or_lt_of_le hcn with e | e
    · exact e
    · have hx : cutE ilt k L < L.length := by omega
      obtain ⟨b1, b2, b3⟩ := cut_lt hr k _ hx
      have h4 := hall _ hx e
      have h5 : ¬ L[cutE ilt k L].k < k := fun h => absurd (b1.2 h) (Nat.lt_irrefl _)
      exfalso; apply h4
      by_cases e2 : L[cutE ilt k L].k = k
      · exact .inr ⟨rfl, e2⟩
      · exact .inl (by omega)
  | false =>
    rw [if_neg (by simp)]
    have hlt : k < L[n].k := by
      rcases h with h | ⟨h, _⟩
      · exact h
      · cases h
    unfold nextE cI
    cases hh : hI L k with
    | true =>
      rw [if_pos rfl]
      have hne : n ≠ cutE ilt k L := fun e => by have := (a2 hh).1 e; omega
      rcases Nat.eq_or_lt_of_le (show cutE ilt k L + 1 ≤ n by omega) with e | e
      · exact e
      · have hx : cutE ilt k L + 1 < L.length := by omega
        obtain ⟨b1, b2, b3⟩ := cut_lt hr k _ hx
        have h4 := hall _ hx e
        have h5 : ¬ L[cutE ilt k L + 1].k < k := fun h => absurd (b1.2 h) (by omega)
        have h6 : L[cutE ilt k L + 1].k ≠ k := fun h => absurd ((b2 hh).2 h) (by omega)
        exfalso; apply h4
        exact .inl (by omega)
    | false =>
      rw [if_neg (by simp)]
      rcases Nat.eq_or_lt_of_le hcn with e | e
      · exact e
      · have hx : cutE ilt k L < L.length := by omega
        obtain ⟨b1, b2, b3⟩ := cut_lt hr k _ hx
        have h4 := hall _ hx e
        have h5 : ¬ L[cutE ilt k L].k < k := fun h => absurd (b1.2 h) (Nat.lt_irrefl _)
        have h6 := b3 hh
        exfalso; apply h4
        exact .inl (by omega)
theorem upI_miss {L : List (E3 Int Int)} (hr : ERise ilt L) (same : Bool) (k : Int) (hall : ∀ j (hj : j < L.length), ¬ upE same k L[j].k) : L.length ≤ upI L same k := by
  unfold upE at hall
  rcases Nat.lt_or_ge (upI L same k) L.length with h | h
  · exfalso
    unfold upI at h
    cases same with
    | true =>
      rw [if_pos rfl] at h
      have h : cutE ilt k L < L.length := h
      obtain ⟨b1, b2, b3⟩ := cut_lt hr k _ h
      have h5 : ¬ L[cutE ilt k L].k < k := fun h => absurd (b1.2 h) (Nat.lt_irrefl _)
      apply hall _ h
      by_cases e2 : L[cutE ilt k L].k = k
      · exact .inr ⟨rfl, e2⟩
      · exact .inl (by omega)
    | false =>
      rw [if_neg (by simp)] at h
      unfold nextE cI at h
      cases hh : hI L k with
      | true =>
        rw [hh, if_pos rfl] at h
        obtain ⟨b1, b2, b3⟩ := cut_lt hr k _ h
        have h5 : ¬ L[cutE ilt k L + 1].k < k := fun h => absurd (b1.2 h) (by omega)
        have h6 : L[cutE ilt k L + 1].k ≠ k := fun h => absurd ((b2 hh).2 h) (by omega)
        exact hall _ h (.inl (by omega))
      | false =>
        rw [hh, if_neg (by simp)] at h
        obtain ⟨b1, b2, b3⟩ := cut_lt hr k _ h
        have h5 : ¬ L[cutE ilt k L].k < k := fun h => absurd (b1.2 h) (Nat.lt_irrefl _)
        have h6 := b3 hh
        exact hall _ h (.inl (by omega))
  · exact h
theorem prev_val (L : List (E3 Int Int)) (k : Int) : prevE L k = if cutE ilt k L = 0 then L.length else cutE ilt k L - 1 := rfl
theorem floor_val (L : List (E3 Int Int)) (k : Int) : floorE L k = if hI L k = true then cutE ilt k L else if cutE ilt k L = 0 then L.length else cutE ilt k L - 1 := rfl
theorem dnI_hit {L : List (E3 Int Int)} (hr : ERise ilt L) (same : Bool) (k : Int) (n : Nat) (hn : n < L.length) (h : dnE same k L[n].k) (hall : ∀ j (hj : j < L.length), n < j → ¬ dnE same k L[j].k) : dnI L same k = n := by
  obtain ⟨a1, a2, a3⟩ := cut_lt hr k n hn
  have hc := cutE_le ilt k L
  unfold dnE at h hall
  have hp : n < cutE ilt k L → cutE ilt k L - 1 = n := fun hlt => by
    rcases Nat.eq_or_lt_of_le (show n ≤ cutE ilt k L - 1 by omega) with e | e
    · exact e.symm
    · exfalso
      have hx : cutE ilt k L - 1 < L.length := by omega
      exact hall _ hx e (.inl ((cut_lt hr k _ hx).1.1 (by omega)))
  unfold dnI
  cases same with
  | true =>
    rw [if_pos rfl, floor_val]
    cases hh : hI L k with
    | true =>
      rw [if_pos rfl]
      obtain ⟨hx, hk⟩ := hasE_true.1 hh
      rcases h with h | ⟨_, h⟩
      · have h3 := a1.2 h
        exact absurd (.inr ⟨rfl, hk⟩) (hall _ hx h3)
      · exact ((a2 hh).2 h).symm
    | false =>
      rw [if_neg (by simp)]
      rcases h with h | ⟨_, h⟩
      · have h3 := a1.2 h
        rw [if_neg (by omega)]; exact hp h3
      · exact absurd h (a3 hh)
  | false =>
    rw [if_neg (by simp), prev_val]
    rcases h with h | ⟨h, _⟩
    · have h3 := a1.2 h
      rw [if_neg (by omega)]; exact hp h3
    · cases h
theorem dnI_miss {L : List (E3 Int Int)} (hr : ERise ilt L) (same : Bool) (k : Int) (hall : ∀ j (hj : j < L.length), ¬ dnE same k L[j].k) : L.length ≤ dnI L same k := by
  unfold dnE at hall
  have hc := cutE_le ilt k L
  have h0 : cutE ilt k L = 0 := by
    rcases Nat.eq_zero_or_pos (cutE ilt k L) with e | e
    · exact e
    · exfalso
      have hx : cutE ilt k L - 1 < L.length := by omega
      exact hall _ hx (.inl ((cut_lt hr k _ hx).1.1 (by omega)))
  unfold dnI
  cases same with
  | true =>
    rw [if_pos rfl, floor_val]
    cases hh : hI L k with
    | true =>
      obtain ⟨hx, hk⟩ := hasE_true.1 hh
      exact absurd (.inr ⟨rfl, hk⟩) (hall _ hx)
    | false => rw [if_neg (by simp), if_pos h0]; exact Nat.le_refl _
  | false => rw [if_neg (by simp), prev_val, if_pos h0]; exact Nat.le_refl _
set_option maxRecDepth 100000 in
set_option maxHeartbeats 2000000 in
theorem rabove {w : World} {B q : Nat} {sv : Value} {L : List (E3 Int Int)} (h : RfL w B q sv L) (hr : ERise ilt L) (hl : L.length ≤ 9999) (k : Int) (same : Bool) :
    Calls Try.prog 38 #[.pointer (some ⟨q, 0, none⟩), .int .i64 k, .bool same] w fun e w' => e = .returned (.int .i64 (plE L (upI L same k))) ∧ w = w' := by
  obtain ⟨ao, c, rfl, h1, h2, h0⟩ := h.shape
  have H := Lib.hid h
  have HR := Lib.hid hr
  unfold maxLen at h2
  clear h hr
  go_enter Try.func38, Try.ntmps38
  go_wp2
  go_loopw [7] (fun i wr => ∃ n : Nat, n ≤ L.length ∧ i = .int .i64 n ∧ (∀ j (hj : j < L.length), j < n → ¬ upE same k L[j].k) ∧ wr = w) (fun i _ => L.length - (intOf i).toNat)
  case atStart => exact ⟨0, Nat.zero_le _, rfl, fun j _ h => by omega, rfl⟩
  case round =>
    obtain ⟨n, hn, rfl, hall, rfl⟩ := hrel
    have Hall := Lib.hid hall
    clear hall
    by_cases hlt : n < L.length
    · obtain ⟨g, rfl, d0, d1, d2⟩ := H.out.cells n hlt
      clear d1 d2
      by_cases hk : upE same k L[n].k
      · have Hg : Hid (plE L (upI L same k) = n) := Lib.hid (by rw [upI_hit HR.out same k n hlt hk Hall.out, plE_at hlt])
        unfold upE at hk
        generalize hy : L[n].k = y at d0 hk
        clear hy
        by_cases hy2 : k < y
        · clear hk
          go_wp2
          go_ret
          exact ⟨by rw [Hg.out]; rfl, rfl⟩
        · have hs : same = true := by rcases hk with h | ⟨h, _⟩; exact absurd h hy2; exact h
          have hyk : y = k := by rcases hk with h | ⟨_, h⟩; exact absurd h hy2; exact h
          subst hs hyk
          clear hk
          have hy3 : y ≤ y := Int.le_refl _
          go_wp2
          go_ret
          exact ⟨by rw [Hg.out]; rfl, rfl⟩
      · have Hx : Hid (∀ j (hj : j < L.length), j < n + 1 → ¬ upE same k L[j].k) := Lib.hid fun j hj h => by
          rcases Nat.lt_or_ge j n with h2 | h2
          · exact Hall.out j hj h2
          · obtain rfl : j = n := by omega
            exact hk
        unfold upE at hk
        generalize hy : L[n].k = y at d0 hk
        clear hy
        have hy2 : y ≤ k := by
          rcases Int.lt_or_le k y with h | h
          · exact absurd (.inl h) hk
          · exact h
        cases same with
        | true =>
          have hy4 : y < k := by
            rcases Int.lt_or_le y k with h | h
            · exact h
            · exact absurd (.inr ⟨rfl, by omega⟩) hk
          have hy5 : (y == k) = false := by rw [beq_eq_false_iff_ne]; omega
          clear hk
          go_wp2
          go_roundw
          case rel => exact ⟨n + 1, by omega, by go_num, Hx.out, by trivial⟩
          case measure => simp [intOf]; omega
        | false =>
          clear hk
          go_wp2
          go_roundw
          case rel => exact ⟨n + 1, by omega, by go_num, Hx.out, by trivial⟩
          case measure => simp [intOf]; omega
    · have Hg : Hid (plE L (upI L same k) = -1) := Lib.hid (plE_no (upI_miss HR.out same k fun j hj => Hall.out j hj (by omega)))
      go_wp2
      go_ret
      exact ⟨by rw [Hg.out]; rfl, rfl⟩
set_option maxRecDepth 100000 in
set_option maxHeartbeats 2000000 in
theorem rbelow {w : World} {B q : Nat} {sv : Value} {L : List (E3 Int Int)} (h : RfL w B q sv L) (hr : ERise ilt L) (hl : L.length ≤ 9999) (k : Int) (same : Bool) :
    Calls Try.prog 39 #[.pointer (some ⟨q, 0, none⟩), .int .i64 k, .bool same] w fun e w' => e = .returned (.int .i64 (plE L (dnI L same k))) ∧ w = w' := by
  obtain ⟨ao, c, rfl, h1, h2, h0⟩ := h.shape
  have H := Lib.hid h
  have HR := Lib.hid hr
  unfold maxLen at h2
  clear h hr
  go_enter Try.func39, Try.ntmps39
  go_wp2
  go_loopw [7] (fun i wr => ∃ n : Nat, n ≤ L.length ∧ i = .int .i64 ((n : Int) - 1) ∧ (∀ j (hj : j < L.length), n ≤ j → ¬ dnE same k L[j].k) ∧ wr = w) (fun i _ => (intOf i + 1).toNat)
  case atStart => exact ⟨L.length, Nat.le_refl _, rfl, fun j _ h => by omega, rfl⟩
  case round =>
    obtain ⟨n, hn, rfl, hall, rfl⟩ := hrel
    have Hall := Lib.hid hall
    clear hall
    cases n with
    | zero =>
      have Hg : Hid (plE L (dnI L same k) = -1) := Lib.hid (plE_no (dnI_miss HR.out same k fun j hj => Hall.out j hj (by omega)))
      rw [show ((0 : Nat) : Int) - 1 = -1 from rfl]
      go_wp2
      go_ret
      exact ⟨by rw [Hg.out]; rfl, rfl⟩
    | succ n =>
      have hlt : n < L.length := by omega
      rw [show ((n + 1 : Nat) : Int) - 1 = (n : Int) by omega]
      obtain ⟨g, rfl, d0, d1, d2⟩ := H.out.cells n hlt
      clear d1 d2
      by_cases hk : dnE same k L[n].k
      · have Hg : Hid (plE L (dnI L same k) = n) := Lib.hid (by rw [dnI_hit HR.out same k n hlt hk Hall.out, plE_at hlt])
        unfold dnE at hk
        generalize hy : L[n].k = y at d0 hk
        clear hy
        by_cases hy2 : y < k
        · clear hk
          go_wp2
          go_ret
          exact ⟨by rw [Hg.out]; rfl, rfl⟩
        · have hs : same = true := by rcases hk with h | ⟨h, _⟩; exact absurd h hy2; exact h
          have hyk : y = k := by rcases hk with h | ⟨_, h⟩; exact absurd h hy2; exact h
          subst hs hyk
          clear hk
          have hy3 : y ≤ y := Int.le_refl _
          go_wp2
          go_ret
          exact ⟨by rw [Hg.out]; rfl, rfl⟩
      · have Hx : Hid (∀ j (hj : j < L.length), n ≤ j → ¬ dnE same k L[j].k) := Lib.hid fun j hj h => by
          rcases Nat.eq_or_lt_of_le h with h2 | h2
          · subst h2; exact hk
          · exact Hall.out j hj h2
        unfold dnE at hk
        generalize hy : L[n].k = y at d0 hk
        clear hy
        have hy2 : k ≤ y := by
          rcases Int.lt_or_le y k with h | h
          · exact absurd (.inl h) hk
          · exact h
        cases same with
        | true =>
          have hy4 : k < y := by
            rcases Int.lt_or_le k y with h | h
            · exact h
            · exact absurd (.inr ⟨rfl, by omega⟩) hk
          have hy5 : (y == k) = false := by rw [beq_eq_false_iff_ne]; omega
          clear hk
          go_wp2
          go_roundw
          case rel => exact ⟨n, by omega, by go_num, Hx.out, by trivial⟩
          case measure => simp [intOf]
        | false =>
          clear hk
          go_wp2
          go_roundw
          case rel => exact ⟨n, by omega, by go_num, Hx.out, by trivial⟩
          case measure => simp [intOf]
end Go.Proofs.Ythpafhimmhacfaa
