/- small, ref of chapter 12's statements; the document's Order. -/
import Derived.Test.YtebnllpcagkkbaaBk0
import Derived.Test.YtebnllpcagkkbaaBo
import Derived.Test.YtebnllpcagkkbaaOrd
import Derived.IntWalk
namespace Go.Proofs.Ytebnllpcagkkbaa
open Go.RowKit
set_option linter.unusedVariables false
set_option linter.unusedSimpArgs false

def smallOne (x : PairD) : Bool := decide (x.key.size ≤ 300 ∧ x.val.size ≤ 300)
def small12 (l : List PairD) : Bool := l.all smallOne && decide (l.length ≤ 80)
theorem small12_yes {l : List PairD} (h : small12 l = true) : (∀ x ∈ l, x.key.size ≤ 300 ∧ x.val.size ≤ 300) ∧ l.length ≤ 80 := by
  unfold small12 at h
  rw [Bool.and_eq_true, List.all_eq_true, decide_eq_true_eq] at h
  exact ⟨fun x hx => by have := h.1 x hx; unfold smallOne at this; simpa using this, h.2⟩

set_option maxRecDepth 100000 in
set_option maxHeartbeats 2000000 in
theorem small12_any {w : World} {a : Option Addr} {c : Nat} {l : List PairD} (h : PRs w a l) (hl : l.length ≤ maxLen) (z : Bool) (hz : small12 l = z) :
    Calls Try.prog 12 #[.slice a l.length c] w fun e w' => e = .returned (.bool z) ∧ Below w.heap.size w w' := by
  unfold maxLen at hl
  have H := Lib.hid h
  have Hz := Lib.hid hz
  clear h hz
  go_enter Try.func12, Try.ntmps12
  go_wp2
  go_loopw [7] (fun i wr => ∃ k : Nat, k ≤ l.length ∧ i = .int .i64 k ∧ (∀ (j : Nat) (hj : j < l.length), j < k → smallOne l[j] = true) ∧ Below w.heap.size w wr) (fun i _ => l.length - (intOf i).toNat)
  case atStart => exact ⟨0, Nat.zero_le _, rfl, fun j hj hk => by omega, Below.refl _ _⟩
  case round =>
    obtain ⟨k, hk, rfl, hall, hb⟩ := hrel
    have Hall := Lib.hid hall
    have hzs := hb.size
    clear hall
    by_cases hlt : k < l.length
    · obtain ⟨b, off, rfl, d0, d1⟩ := H.out.cells hb k hlt
      obtain ⟨q1, q2⟩ := H.out.2 _ (List.getElem_mem hlt)
      unfold maxLen at q1 q2
      cases hs : smallOne l[k] with
      | true =>
        have Hx : Hid (∀ (j : Nat) (hj : j < l.length), j < k + 1 → smallOne l[j] = true) := Lib.hid fun j hj hjk => by
          by_cases e : j = k
          · subst e; exact hs
          · exact Hall.out j hj (by omega)
        unfold smallOne at hs
        rw [decide_eq_true_eq] at hs
        obtain ⟨h1, h2⟩ := hs
        generalize l[k] = x at *
        go_wp2
        go_roundw
        case rel => exact ⟨k + 1, by omega, by go_num, Hx.out, hb.alloc hzs _⟩
        case measure => simp [intOf]; omega
      | false =>
        have Hx : Hid (small12 l = false) := Lib.hid (by
          unfold small12
          rw [Bool.and_eq_false_iff]; left
          rw [List.all_eq_false]
          exact ⟨_, List.getElem_mem hlt, by rw [hs]; decide⟩)
        obtain rfl : z = false := by rw [← Hz.out, Hx.out]
        unfold smallOne at hs
        rw [decide_eq_false_iff_not] at hs
        have h1 : 300 < (l[k]).key.size ∨ ((l[k]).key.size ≤ 300 ∧ 300 < (l[k]).val.size) := by omega
        clear hs
        generalize l[k] = x at *
        rcases h1 with h1 | ⟨h1, h2⟩
        all_goals
          go_wp2
          go_ret
          exact ⟨rfl, hb.alloc hzs _⟩
    · have Hx : Hid (z = decide ((l.length : Int) ≤ 80)) := Lib.hid (by
        rw [← Hz.out]
        unfold small12
        have h1 : l.all smallOne = true := by
          rw [List.all_eq_true]
          intro x hx
          obtain ⟨j, hj, rfl⟩ := List.getElem_of_mem hx
          exact Hall.out j hj (by omega)
        rw [h1, Bool.true_and]
        exact decide_eq_decide.2 (by omega))
      go_wp2
      go_ret
      exact ⟨by rw [Hx.out]; rfl, hb⟩

def pairRow (l : List PairD) : List Value := l.flatMap fun x => [.string x.key, .string x.val]
theorem pairRow_cons (x : PairD) (l : List PairD) : pairRow (x :: l) = .string x.key :: .string x.val :: pairRow l := rfl
theorem pairRow_append (l m : List PairD) : pairRow (l ++ m) = pairRow l ++ pairRow m := by unfold pairRow; rw [List.flatMap_append]
theorem pairRow_at : ∀ (l : List PairD) (k : Nat) (h : k < l.length), (pairRow l)[k * 2]? = some (.string l[k].key) ∧ (pairRow l)[k * 2 + 1]? = some (.string l[k].val)
  | x :: l, 0, _ => ⟨rfl, rfl⟩
  | x :: l, k + 1, h => by
    obtain ⟨h1, h2⟩ := pairRow_at l k (by simpa using h)
    rw [pairRow_cons, show (k + 1) * 2 = k * 2 + 2 by omega]
    exact ⟨h1, h2⟩
theorem prs_of_row {w : World} {B : Nat} {v : Value} {l : List PairD} {n : Nat} {T : TypeId} (hn : n = l.length) (h : w.ownsRow B T 2 v n (pairRow l)) (hok : ∀ x ∈ l, PairOk x) : ∃ a c, v = .slice a l.length c ∧ PRs w a l := by
  subst hn
  obtain ⟨ao, c, rfl, _, _, hs⟩ := row_shape h
  refine ⟨ao, c, rfl, fun hl => ?_, hok⟩
  obtain ⟨g, rfl, _, _⟩ := hs hl
  refine ⟨g, 0, rfl, fun i hi => ?_⟩
  obtain ⟨r0, r1⟩ := pairRow_at l i hi
  have k0 := World.ownsRow.cells h (g := g) rfl (i * 2) _ r0
  have k1 := World.ownsRow.cells h (g := g) rfl (i * 2 + 1) _ r1
  rw [add_none] at k0 k1
  exact ⟨k0, k1⟩
theorem infoP12 : (Try.prog.info? 51).map (fun i => (i.zero, i.size, i.bytes)) = some (some (.agg #[.string ⟨#[]⟩, .string ⟨#[]⟩]), 2, 32) := by kernel_rfl

set_option maxRecDepth 100000 in
set_option maxHeartbeats 2000000 in
theorem ref12_any {w : World} {a : Option Addr} {c : Nat} {l : List PairD} (h : PRs w a l) (hl : l.length ≤ 1000000) :
    Calls Try.prog 14 #[.slice a l.length c] w fun e w' => ∃ a' c', e = .returned (.slice a' l.length c') ∧ PRs w' a' l ∧ Below w.heap.size w w' := by
  have H := Lib.hid h
  clear h
  have hinf := infoP12
  obtain ⟨i0, hi, hzo, hz3, hzb⟩ := info_parts hinf
  have Hi := Lib.hid hi
  have Hz0 := Lib.hid hzo
  have Hz3 := Lib.hid hz3
  have Hzb := Lib.hid hzb
  clear hi hzo hz3 hzb hinf
  go_enter Try.func14, Try.ntmps14
  go_wp2
  go_loopw [3, 8] (fun v i wr => ∃ k : Nat, k ≤ l.length ∧ i = .int .i64 k ∧ wr.ownsRow w.heap.size 51 2 v k (pairRow (l.take k)) ∧ Below w.heap.size w wr) (fun _ i _ => l.length - (intOf i).toNat)
  case atStart => exact ⟨0, Nat.zero_le _, rfl, World.ownsRow_nil _ _ _ _, Below.refl _ _⟩
  case round =>
    obtain ⟨k, hk, rfl, ho, hb⟩ := hrel
    have HO := Lib.hid ho
    have hzs := hb.size
    clear ho
    by_cases hlt : k < l.length
    · obtain ⟨b, off, rfl, d0, d1⟩ := H.out.cells hb k hlt
      have hts : l.take (k + 1) = l.take k ++ [l[k]] := List.take_succ_eq_append_getElem hlt
      have Hts := Lib.hid hts
      clear hts
      generalize l[k] = x at *
      go_wp2_with (at_builtin; go_loud (refine wpList_appN rfl (.tmp 12) (.tmp 18) 28 51 i0 (.agg #[.string ⟨#[]⟩, .string ⟨#[]⟩]) 2 32 Try.underlying28 Hi.out Hz0.out Hz3.out Hzb.out rfl (by decide) rfl w.heap.size u3 k (pairRow (l.take k)) rfl (World.ownsRow.alloc HO.out _) #[.string x.key, .string x.val] 1 1 (by first | rfl | (simp; done) | (simp; rfl)) rfl (by intro u hu; simp at hu; rcases hu with rfl | rfl <;> rfl) (by unfold maxLen; omega) (by omega) (by first | exact hzs | (simp; omega)) ?_); intro v2 w2' ho2 hold2 ha2)
      go_roundw
      case rel =>
        refine ⟨k + 1, by omega, by go_num, ?_, ?_⟩
        · rw [Hts.out, pairRow_append]; exact ho2
        · exact (hb.alloc hzs _).trans ((Chg.of_app ha2).below (fun j hj => (World.ownsRow.lt HO.out j hj).1) (by simp; omega))
      case measure => simp [intOf]; omega
    · obtain rfl : k = l.length := by omega
      have ho := HO.out
      rw [List.take_of_length_le (Nat.le_refl _)] at ho
      obtain ⟨a', c', rfl, hp⟩ := prs_of_row rfl ho H.out.2
      have HP := Lib.hid hp
      clear ho hp HO
      go_wp2
      go_ret
      exact ⟨a', c', rfl, HP.out, hb⟩

/-- do the keys rise, as the document asks it? -/
def risesB (l : List PairD) : Bool := (List.range l.length).all fun i => i == 0 || ahead (pAt l (i - 1)).key (pAt l i).key
theorem leB_no (u v : ByteArray) : leB u v = false ↔ ahead v u = true := by unfold leB; rw [ahead_le]; simp
theorem risesB_iff (l : List PairD) : risesB l = true ↔ Rises l l.length := by
  unfold risesB Rises
  rw [List.all_eq_true]
  constructor
  · intro h i h0 hi
    have := h i (List.mem_range.2 hi)
    rw [Bool.or_eq_true, beq_iff_eq] at this
    rcases this with h1 | h1
    · omega
    · exact (leB_no _ _).2 h1
  · intro h i hi
    rw [Bool.or_eq_true, beq_iff_eq]
    rcases Nat.eq_zero_or_pos i with h0 | h0
    · exact .inl h0
    · exact .inr ((leB_no _ _).1 (h i h0 (List.mem_range.1 hi)))

set_option maxHeartbeats 1000000 in
theorem order12_any (a b : ByteArray) (w : World) (ha : a.size ≤ maxLen) (hb : b.size ≤ maxLen) :
    Calls Try.prog 26 #[.string a, .string b] w fun e w' => e = .returned (.int .i64 (Lib.compareBytes a.data.toList b.data.toList)) ∧ Below w.heap.size w w' := by
  have ho := order_any a b w ha hb
  have Ho := Lib.hid ho
  clear ho
  go_enter Try.func26, Try.ntmps26
  go_wp2_with fail; (with_reducible refine (Ho.out).mono ?_); rintro e w1 ⟨rfl, hb1⟩
  go_wp2
  go_ret
  exact ⟨rfl, hb1⟩

set_option maxRecDepth 100000 in
set_option maxHeartbeats 2000000 in
theorem rises_any {w : World} {a : Option Addr} {c : Nat} {l : List PairD} (h : PRs w a l) (hl : l.length ≤ maxLen) (z : Bool) (hz : risesB l = z) :
    Calls Try.prog 13 #[.slice a l.length c] w fun e w' => e = .returned (.bool z) ∧ Below w.heap.size w w' := by
  unfold maxLen at hl
  have H := Lib.hid h
  have Hz := Lib.hid hz
  clear h hz
  go_enter Try.func13, Try.ntmps13
  go_wp2
  go_loopw [3] (fun i wr => ∃ k : Nat, (k ≤ l.length ∨ k = 1) ∧ 1 ≤ k ∧ i = .int .i64 k ∧ (∀ j, 0 < j → j < k → j < l.length → ahead (pAt l (j - 1)).key (pAt l j).key = true) ∧ Below w.heap.size w wr) (fun i _ => l.length + 1 - (intOf i).toNat)
  case atStart => exact ⟨1, .inr rfl, Nat.le_refl _, rfl, fun j h1 h2 => by omega, Below.refl _ _⟩
  case round =>
    obtain ⟨k, hk, hk1, rfl, hall, hb⟩ := hrel
    have Hall := Lib.hid hall
    clear hall
    by_cases hlt : k < l.length
    · obtain ⟨b, off, hab, d2, _⟩ := H.out.cells hb k hlt
      obtain ⟨b', off', rfl, d0, _⟩ := H.out.cells hb (k - 1) (by omega)
      cases hab
      have e0 := pAt_get (show k - 1 < l.length by omega)
      have e1 := pAt_get hlt
      have ok0 := (H.out.2 _ (List.getElem_mem (show k - 1 < l.length by omega))).1
      have ok1 := (H.out.2 _ (List.getElem_mem hlt)).1
      rw [← e0] at d0 ok0
      rw [← e1] at d2 ok1
      have hah : Hid (∀ cc, Lib.compareBytes (pAt l (k - 1)).key.data.toList (pAt l k).key.data.toList = cc → ahead (pAt l (k - 1)).key (pAt l k).key = decide (cc < 0)) := Lib.hid fun cc h => by rw [← h]; rfl
      have hcc : ∃ cc, Lib.compareBytes (pAt l (k - 1)).key.data.toList (pAt l k).key.data.toList = cc := ⟨_, rfl⟩
      obtain ⟨cc, hcc⟩ := hcc
      have hah := Lib.hid (hah.out cc hcc)
      have hor : ∀ W, Calls Try.prog 26 #[.string (pAt l (k - 1)).key, .string (pAt l k).key] W fun e w' => e = .returned (.int .i64 cc) ∧ Below W.heap.size W w' := fun W => by
        have := order12_any (pAt l (k - 1)).key (pAt l k).key W ok0 ok1
        rw [hcc] at this
        exact this
      have Hor := Lib.hid hor
      clear e0 e1 hor ok0 ok1 hcc
      generalize (pAt l (k - 1)).key = u at d0 Hor
      generalize (pAt l k).key = v at d2 Hor
      obtain ⟨j, rfl⟩ : ∃ j, k = j + 1 := ⟨k - 1, by omega⟩
      have d0 : wr.cell? ⟨b, off + j * 2, none⟩ = some (.string u) := d0
      have s0 := cell_next d0
      have s2 := cell_next d2
      have hw1 : IntKind.i64.wrap (((j + 1 : Nat) : Int) - 1) = (j : Int) := by rw [IntWalk.i64_in _ (by omega)]; omega
      have hw2 : IntKind.i64.wrap ((j : Int) + 1 - 1) = (j : Int) := by rw [IntWalk.i64_in _ (by omega)]; omega
      have hj0 : (0 : Int) ≤ (j : Int) := by omega
      have hj1 : (j : Int) < (l.length : Int) := by omega
      have hj2 : (j : Int) + 1 < (l.length : Int) := by omega
      have hj3 : (0 : Int) ≤ (j : Int) + 1 := by omega
      have Bq := bnext_grow (Below.refl wr.heap.size wr)
      by_cases hc : cc < 0
      · have Hx : Hid (∀ i, 0 < i → i < j + 1 + 1 → i < l.length → ahead (pAt l (i - 1)).key (pAt l i).key = true) := Lib.hid fun i h1 h2 h3 => by
          by_cases e : i = j + 1
          · subst e
            rw [hah.out]; exact decide_eq_true hc
          · exact Hall.out i h1 (by omega) h3
        go_upto_region 4 with fail
        refine wp_region_quiet_below (by kernel_rfl) (by kernel_rfl) ?_; (repeat (go_big_quiet_step ((go_at_call 26; (with_reducible refine Calls.regrown_of (Hor.out _)))))); refine wpQuiet_nil ?_; rintro _ ⟨pq, rfl⟩
        go_wp2
        go_roundw
        case rel => exact ⟨j + 1 + 1, by omega, by omega, by go_num, Hx.out, bnext hb (Bq _ _)⟩
        case measure => simp [intOf]; omega
      · have hzf : z = false := by
          rw [← Hz.out]
          cases hr : risesB l with
          | false => rfl
          | true =>
            have h1 := (risesB_iff l).1 hr (j + 1) (by omega) hlt
            have h2 := (leB_no _ _).1 h1
            rw [hah.out, decide_eq_true_eq] at h2
            exact absurd h2 hc
        subst hzf
        have hc' : 0 ≤ cc := by omega
        go_upto_region 4 with fail
        refine wp_region_quiet_below (by kernel_rfl) (by kernel_rfl) ?_; (repeat (go_big_quiet_step ((go_at_call 26; (with_reducible refine Calls.regrown_of (Hor.out _)))))); refine wpQuiet_nil ?_; rintro _ ⟨pq, rfl⟩
        go_wp2
        go_ret
        exact ⟨rfl, bnext hb (Bq _ _)⟩
    · have hx : z = true := by
        rw [← Hz.out]
        unfold risesB
        rw [List.all_eq_true]
        intro i hi
        rw [Bool.or_eq_true, beq_iff_eq]
        rcases Nat.eq_zero_or_pos i with h0 | h0
        · exact .inl h0
        · exact .inr (Hall.out i h0 (by have := List.mem_range.1 hi; omega) (List.mem_range.1 hi))
      subst hx
      go_wp2
      go_ret
      exact ⟨rfl, hb⟩
end Go.Proofs.Ytebnllpcagkkbaa
