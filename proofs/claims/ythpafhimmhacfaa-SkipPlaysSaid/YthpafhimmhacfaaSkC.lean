/- before at one value; ceil. -/
import Derived.Test.YthpafhimmhacfaaSkBi
namespace Go.Proofs.Ythpafhimmhacfaa
open Go.RowKit
set_option linter.unusedVariables false
set_option linter.unusedSimpArgs false

section
variable {κ : Type} {lt : κ → κ → Bool} {T : List (SE κ)} {k : κ}
theorem predAt_unique {m i j : Nat} (hi : PredAt' lt T k m i) (hj : PredAt' lt T k m j) : i = j := by
  obtain ⟨i1, i2, i3, i4⟩ := hi
  obtain ⟨j1, j2, j3, j4⟩ := hj
  rcases Nat.lt_trichotomy i j with h | h | h
  · have := i4 j j1 h j2
    rcases j3 with h0 | h0
    · omega
    · rw [h0] at this; cases this
  · exact h
  · have := j4 i i1 h i2
    rcases i3 with h0 | h0
    · omega
    · rw [h0] at this; cases this
theorem predAt_some (m : Nat) : ∀ d i, ∀ (hi : i < T.length), T.length - i ≤ d → m < T[i].ht → (i = 0 ∨ lt T[i].key k = true) → ∃ j, PredAt' lt T k m j
  | 0, i, hi, hd, _, _ => by omega
  | d + 1, i, hi, hd, h1, h2 => by
    by_cases hx : ∃ j, ∃ hj : j < T.length, i < j ∧ m < T[j].ht ∧ lt T[j].key k = true
    · obtain ⟨j, hj, hij, h3, h4⟩ := hx
      exact predAt_some m d j hj (by omega) h3 (.inr h4)
    · refine ⟨i, hi, h1, h2, fun j hj hij h3 => ?_⟩
      cases h4 : lt T[j].key k with
      | false => rfl
      | true => exact absurd ⟨j, hj, hij, h3, h4⟩ hx
theorem found_unique {bs cs : List Nat} (h : Found lt T k 0 bs) (g : Found lt T k 0 cs) : bs = cs := by
  refine List.ext_getElem (by have := h.1; have := g.1; omega) fun x h1 h2 => ?_
  obtain ⟨i, hi, p1, e1⟩ := h.2 x h1
  obtain ⟨j, hj, p2, e2⟩ := g.2 x h2
  obtain rfl := predAt_unique p1 p2
  rw [e1, e2]
theorem found_some (h0 : 0 < T.length) (hh : T[0].ht = 12) : ∀ n, n ≤ 12 → ∃ bs, Found lt T k n bs := by
  intro n hn
  obtain ⟨d, hd⟩ : ∃ d, n + d = 12 := ⟨12 - n, by omega⟩
  induction d generalizing n with
  | zero => exact ⟨[], by simp; omega, fun h hx => absurd hx (by simp)⟩
  | succ d ih =>
    obtain ⟨bs, hb⟩ := ih (n + 1) (by omega) (by omega)
    obtain ⟨i, hp⟩ := predAt_some (lt := lt) (T := T) (k := k) n T.length 0 h0 (by omega) (by omega) (.inl rfl)
    have hp2 := hp
    obtain ⟨hi, _⟩ := hp2
    exact ⟨_, hb.cons hi hp⟩
end
theorem before_ii' {w : World} {B p : Nat} {v : Value} {T : List (SE Int)} (h : SK 71 74 (.int .i64) w B p v T) (hr : TRise ilt T) (hl : T.length ≤ 1000000) (k : Int) (bs : List Nat) (hb : Found ilt T k 0 bs) :
    Calls Try.prog 43 #[.pointer (some ⟨p, 0, none⟩), .int .i64 k] w fun e w' => e = .returned (.agg (bvals bs).toArray) ∧ Below w.heap.size w w' :=
  (before_ii h hr hl k).mono fun e w' ⟨bs', h1, h2, h3⟩ => ⟨by rw [h1, found_unique h2 hb], h3⟩
/-- where the keys that are not below k begin -/
def CutAt {κ : Type} (lt : κ → κ → Bool) (T : List (SE κ)) (k : κ) (c : Nat) : Prop := 0 < c ∧ c ≤ T.length ∧ (∀ j (hj : j < T.length), 0 < j → j < c → lt T[j].key k = true) ∧ (∀ j (hj : j < T.length), c ≤ j → lt T[j].key k = false)
theorem twelve {bs : List Nat} (h : bs.length = 12) : ∃ b0 b1 b2 b3 b4 b5 b6 b7 b8 b9 b10 b11, bs = [b0, b1, b2, b3, b4, b5, b6, b7, b8, b9, b10, b11] := by
  cases bs with
  | nil => simp at h
  | cons b0 bs =>
  cases bs with
  | nil => simp at h
  | cons b1 bs =>
  cases bs with
  | nil => simp at h
  | cons b2 bs =>
  cases bs with
  | nil => simp at h
  | cons b3 bs =>
  cases bs with
  | nil => simp at h
  | cons b4 bs =>
  cases bs with
  | nil => simp at h
  | cons b5 bs =>
  cases bs with
  | nil => simp at h
  | cons b6 bs =>
  cases bs with
  | nil => simp at h
  | cons b7 bs =>
  cases bs with
  | nil => simp at h
  | cons b8 bs =>
  cases bs with
  | nil => simp at h
  | cons b9 bs =>
  cases bs with
  | nil => simp at h
  | cons b10 bs =>
  cases bs with
  | nil => simp at h
  | cons b11 bs =>
  cases bs with
  | cons x bs => simp at h
  | nil => exact ⟨_, _, _, _, _, _, _, _, _, _, _, _, rfl⟩
theorem pred_zero {κ : Type} {lt : κ → κ → Bool} {T : List (SE κ)} {k : κ} {c i : Nat} (hc : CutAt lt T k c) (hht : ∀ j (hj : j < T.length), 0 < T[j].ht) (hp : PredAt' lt T k 0 i) : i + 1 = c := by
  obtain ⟨c1, c2, c3, c4⟩ := hc
  obtain ⟨i1, i2, i3, i4⟩ := hp
  rcases Nat.lt_trichotomy (i + 1) c with h | h | h
  · have := i4 (c - 1) (by omega) (by omega) (hht _ _)
    rw [c3 (c - 1) (by omega) (by omega) (by omega)] at this; cases this
  · exact h
  · rcases i3 with h0 | h0
    · omega
    · rw [c4 i i1 (by omega)] at h0; cases h0
theorem next_zero {κ : Type} {T : List (SE κ)} (c : Nat) (hht : ∀ j (hj : j < T.length), 0 < T[j].ht) : fid (T.drop c) 0 = if h : c < T.length then T[c].id else 0 := by
  by_cases h : c < T.length
  · rw [dif_pos h, List.drop_eq_getElem_cons h, fid_yes (hht c h)]
  · rw [dif_neg h, List.drop_of_length_le (by omega)]; rfl
set_option maxRecDepth 100000 in
set_option maxHeartbeats 4000000 in
theorem ceil_ii {w : World} {B p : Nat} {v : Value} {T : List (SE Int)} (h : SK 71 74 (.int .i64) w B p v T) (hr : TRise ilt T) (hl : T.length ≤ 1000000) (hht : ∀ j (hj : j < T.length), 0 < T[j].ht) (k : Int) (c : Nat) (hc : CutAt ilt T k c) :
    Calls Try.prog 45 #[.pointer (some ⟨p, 0, none⟩), .int .i64 k] w fun e w' => e = .returned (.int .i64 (if h : c < T.length then T[c].id else 0 : Nat)) ∧ Below w.heap.size w w' := by
  obtain ⟨h0, hh0, _⟩ := level_room h
  obtain ⟨bs, hbs⟩ := found_some (lt := ilt) (k := k) h0 hh0 0 (by decide)
  have hbl : bs.length = 12 := by have := hbs.1; omega
  obtain ⟨b0, b1, b2, b3, b4, b5, b6, b7, b8, b9, b10, b11, rfl⟩ := twelve hbl
  obtain ⟨i, hi, hp, hbi⟩ := hbs.2 0 (by simp)
  have hbi : b0 = T[i].id := hbi
  have hic := pred_zero hc hht hp
  have Hbef : Hid (∀ W, Below w.heap.size w W → Calls Try.prog 43 #[.pointer (some ⟨p, 0, none⟩), .int .i64 k] W fun e w' => e = .returned (.agg #[.int .i64 (b0 : Nat), .int .i64 (b1 : Nat), .int .i64 (b2 : Nat), .int .i64 (b3 : Nat), .int .i64 (b4 : Nat), .int .i64 (b5 : Nat), .int .i64 (b6 : Nat), .int .i64 (b7 : Nat), .int .i64 (b8 : Nat), .int .i64 (b9 : Nat), .int .i64 (b10 : Nat), .int .i64 (b11 : Nat)]) ∧ Below W.heap.size W w') := Lib.hid fun W hB => before_ii' (h.below hB) hr hl k _ hbs
  obtain ⟨g, cv, hv, hc1, hc2, hid, k0, d0, d1, d2, dn⟩ := h.node i hi
  have hd := dn 0 (hht i hi)
  rw [hic, next_zero c hht] at hd
  have hti := hht i hi
  generalize (if h : c < T.length then T[c].id else 0 : Nat) = R at *
  have hidI : ((T[i].id : Nat) : Int) < (T.length : Int) := by omega
  have hid0 : (0 : Int) ≤ ((T[i].id : Nat) : Int) := by omega
  rw [← hbi] at hid d2 hidI hid0
  unfold maxLen at hc2
  have i0 : ∀ w, (Instr.index 75 (.agg #[.int .i64 (b0 : Nat), .int .i64 (b1 : Nat), .int .i64 (b2 : Nat), .int .i64 (b3 : Nat), .int .i64 (b4 : Nat), .int .i64 (b5 : Nat), .int .i64 (b6 : Nat), .int .i64 (b7 : Nat), .int .i64 (b8 : Nat), .int .i64 (b9 : Nat), .int .i64 (b10 : Nat), .int .i64 (b11 : Nat)]) (.int .i64 0)).run Try.prog w = .ok (.int .i64 (b0 : Nat)) w := fun _ => by first | kernel_rfl | rfl
  have s0 := cell_next k0
  have s2 := cell_next d2
  have sd := cell_next hd
  have Bq := bnext_grow (Below.refl w.heap.size w)
  clear hic hc hp hbi d0 d1 dn hbs hr hbl
  go_enter Try.func45, Try.ntmps45
  go_upto_region 1 with (fail)
  refine wp_region_quiet_below (by kernel_rfl) (by kernel_rfl) ?_; (repeat (go_big_quiet_step ((go_at_call 43; (with_reducible refine Calls.regrown_of (Hbef.out _ (Bq _ _))))))); refine wpQuiet_nil ?_; rintro _ ⟨pq, rfl⟩
  go_wp2
  go_ret
  exact ⟨rfl, Bq _ _⟩
end Go.Proofs.Ythpafhimmhacfaa
