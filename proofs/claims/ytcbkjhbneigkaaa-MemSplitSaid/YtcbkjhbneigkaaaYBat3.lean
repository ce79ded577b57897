/- batch.Batch: Size, Last, Keys; small and awake of tithebarnlaw10. -/
import Derived.Test.YtcbkjhbneigkaaaYBat2
namespace Go.Proofs.Ytcbkjhbneigkaaa
open Go.RowKit
set_option linter.unusedVariables false

def batSize (seq : Int) (l : List OpD) : Nat := if batRight seq l then (batB seq l).length else 0
def batLast (seq : Int) (l : List OpD) : Int := if batRight seq l then seq + l.length - 1 else 0

set_option maxHeartbeats 1000000 in
theorem batlast {w : World} {a : Option Addr} {c : Nat} {l : List OpD} (h : OPs w a l) (hl : l.length ≤ maxLen) (seq : Int) :
    Calls Try.prog 29 #[.agg #[.int .i64 seq, .slice a l.length c]] w fun e w' => e = .returned (.int .i64 (batLast seq l)) ∧ Below w.heap.size w w' := by
  have H := Lib.hid h
  clear h
  cases hr : batRight seq l with
  | true =>
    have Hs : Hid (batLast seq l = seq + l.length - 1) := Lib.hid (by unfold batLast; rw [hr, if_pos rfl])
    obtain ⟨_, h1, h2, h3, h4⟩ := batRight_all hr
    have hb := batcheck (c := c) (H.out.below ((Below.refl _ w).alloc (Nat.le_refl _) (.cells #[.int .i64 seq, .slice a l.length c] 32))) hl seq 0 (by rw [hr, if_pos rfl])
    have Hb := Lib.hid hb
    clear hb hr
    go_enter Try.func29, Try.ntmps29
    go_wp2_with fail; (with_reducible refine (Hb.out).mono ?_); rintro e w1 ⟨rfl, hb1⟩
    have b1 : w1.heap[w.heap.size]? = some (.cells #[.int .i64 seq, .slice a l.length c] 32 (0, 0)) := by
      rw [hb1.block _ (by simp)]; exact heap_alloc_new w _
    obtain ⟨q0, q1, _⟩ := cell_two b1
    clear b1 Hb
    go_wp2
    go_ret
    exact ⟨by rw [Hs.out]; rfl, ((Below.refl _ w).alloc (Nat.le_refl _) _).trans (hb1.mono (by simp))⟩
  | false =>
    have Hs : Hid (batLast seq l = 0) := Lib.hid (by unfold batLast; rw [hr, if_neg (by decide)])
    have hb := batcheck (c := c) (H.out.below ((Below.refl _ w).alloc (Nat.le_refl _) (.cells #[.int .i64 seq, .slice a l.length c] 32))) hl seq 100 (by rw [hr, if_neg (by decide)])
    have Hb := Lib.hid hb
    clear hb hr
    go_enter Try.func29, Try.ntmps29
    go_wp2_with fail; (with_reducible refine (Hb.out).mono ?_); rintro e w1 ⟨rfl, hb1⟩
    go_wp2
    go_ret
    exact ⟨by rw [Hs.out]; rfl, ((Below.refl _ w).alloc (Nat.le_refl _) _).trans (hb1.mono (by simp))⟩

/-- the cells of the first k keys -/
def opAt (l : List OpD) (i : Nat) : OpD := l.getD i ⟨0, ⟨#[]⟩, ⟨#[]⟩⟩
def keyRow (seq : Int) (l : List OpD) (k : Nat) : List Value := (List.range k).flatMap fun i => [.string (opAt l i).key, .int .i64 (seq + i), .int .i64 (opAt l i).kind]
theorem keyRow_succ (seq : Int) (l : List OpD) (k : Nat) : keyRow seq l (k + 1) = keyRow seq l k ++ [.string (opAt l k).key, .int .i64 (seq + k), .int .i64 (opAt l k).kind] := by
  unfold keyRow; rw [List.range_succ, List.flatMap_append]; simp only [List.flatMap_cons, List.flatMap_nil, List.append_nil]
theorem keyInfo : (Try.prog.info? 34).map (fun i => (i.zero, i.size, i.bytes)) = some (some (.agg #[.string ⟨#[]⟩, .int .i64 0, .int .i64 0]), 3, 32) := by kernel_rfl

def KeysOut (w : World) (seq : Int) (l : List OpD) (e : Ending) (w' : World) : Prop :=
  ∃ v, e = .returned v ∧ w'.ownsRow w.heap.size 34 3 v l.length (keyRow seq l l.length) ∧ Below w.heap.size w w'

set_option maxHeartbeats 1000000 in
theorem batkeys_bad {w : World} {a : Option Addr} {c : Nat} {l : List OpD} (h : OPs w a l) (hl : l.length ≤ maxLen) (seq : Int) (hr : batRight seq l = false) :
    Calls Try.prog 25 #[.agg #[.int .i64 seq, .slice a l.length c]] w fun e w' => e = .returned (.slice none 0 0) ∧ Below w.heap.size w w' := by
  have hb := batcheck (c := c) (h.below ((Below.refl _ w).alloc (Nat.le_refl _) (.cells #[.int .i64 seq, .slice a l.length c] 32))) hl seq 100 (by rw [hr, if_neg (by decide)])
  have Hb := Lib.hid hb
  clear hb hr h
  go_enter Try.func25, Try.ntmps25
  go_wp2_with fail; (with_reducible refine (Hb.out).mono ?_); rintro e w1 ⟨rfl, hb1⟩
  go_wp2
  go_ret
  exact ⟨rfl, ((Below.refl _ w).alloc (Nat.le_refl _) _).trans (hb1.mono (by simp))⟩

set_option maxRecDepth 100000 in
set_option maxHeartbeats 2000000 in
theorem batkeys {w : World} {a : Option Addr} {c : Nat} {l : List OpD} (h : OPs w a l) (hl : l.length ≤ maxLen) (seq : Int) (hr : batRight seq l = true) :
    Calls Try.prog 25 #[.agg #[.int .i64 seq, .slice a l.length c]] w (KeysOut w seq l) := by
  obtain ⟨_, h1, h2, h3, h4⟩ := batRight_all hr
  have hb := batcheck (c := c) (h.below ((Below.refl _ w).alloc (Nat.le_refl _) (.cells #[.int .i64 seq, .slice a l.length c] 32))) hl seq 0 (by rw [hr, if_pos rfl])
  have Hb := Lib.hid hb
  have H := Lib.hid h
  have Hinf := Lib.hid keyInfo
  clear hb hr h
  go_enter Try.func25, Try.ntmps25
  go_wp2_with fail; (with_reducible refine (Hb.out).mono ?_); rintro e w1 ⟨rfl, hb1⟩
  have b1 : w1.heap[w.heap.size]? = some (.cells #[.int .i64 seq, .slice a l.length c] 32 (0, 0)) := by
    rw [hb1.block _ (by simp)]; exact heap_alloc_new w _
  obtain ⟨q0, q1, _⟩ := cell_two b1
  have hz1 : w.heap.size < w1.heap.size := blk_lt b1
  have B1 : Below w.heap.size w w1 := ((Below.refl _ w).alloc (Nat.le_refl _) _).trans (hb1.mono (by simp))
  clear b1 Hb hb1
  go_wp2
  go_loopw [3, 12] (fun v i wr => ∃ k : Nat, k ≤ l.length ∧ i = .int .i64 k ∧ wr.ownsRow w1.heap.size 34 3 v k (keyRow seq l k) ∧ Below w1.heap.size w1 wr) (fun _ i _ => l.length - (intOf i).toNat)
  case atStart => exact ⟨0, Nat.zero_le _, rfl, World.ownsRow_nil _ _ _ _, Below.refl _ _⟩
  case round =>
    obtain ⟨k, hk, rfl, hown, hbr⟩ := hrel
    have Hown := Lib.hid hown
    have hz := hbr.size
    have B2 := B1.trans (hbr.mono (Nat.le_of_lt hz1))
    clear hown
    by_cases hlt : k < l.length
    · obtain ⟨b, off, rfl, d0, d1, d2⟩ := H.out.cells B2 k hlt
      have hzr : w.heap.size < wr.heap.size := by omega
      have e0 := (hbr.cell (p := ⟨w.heap.size, 0, none⟩) hz1).trans q0
      have e1 := (hbr.cell (p := ⟨w.heap.size, 1, none⟩) hz1).trans q1
      have Hks : Hid (keyRow seq l (k + 1) = keyRow seq l k ++ [.string (l[k]).key, .int .i64 (seq + k), .int .i64 (l[k]).kind]) := Lib.hid (by
        rw [keyRow_succ, show opAt l k = l[k] by unfold opAt; rw [List.getD, List.getElem?_eq_getElem hlt]; rfl])
      generalize l[k] = x at *
      generalize keyRow seq l k = kr at *
      generalize hkr1 : keyRow seq l (k + 1) = kr1 at Hks
      have Hkr1 := Lib.hid hkr1
      clear hkr1
      obtain ⟨i0, hi, hz0, hz3, hzb⟩ := info_parts Hinf.out
      have Hi := Lib.hid hi
      have Hz0 := Lib.hid hz0
      have Hz3 := Lib.hid hz3
      have Hzb := Lib.hid hzb
      clear hi hz0 hz3 hzb
      go_wp2_with (at_builtin; go_loud (refine wpList_appN rfl (.tmp 17) (.tmp 27) 69 34 i0 (.agg #[.string ⟨#[]⟩, .int .i64 0, .int .i64 0]) 3 32 Try.underlying69 Hi.out Hz0.out Hz3.out Hzb.out rfl (by decide) rfl w1.heap.size u3 k kr rfl (World.ownsRow.alloc Hown.out _) #[.string x.key, .int .i64 (seq + k), .int .i64 x.kind] 1 1 (by first | rfl | (simp; done) | (simp; rfl)) rfl (by intro u hu; simp at hu; rcases hu with rfl | rfl | rfl <;> rfl) (by unfold maxLen; omega) (by omega) (by simp; omega) ?_); intro v2 w2 ho2 hold2 ha2)
      go_roundw
      case rel => exact ⟨k + 1, by omega, by go_num, by rw [Hkr1.out, Hks.out]; exact ho2, (hbr.alloc hz _).trans ((Chg.of_app ha2).below (fun q hq => (World.ownsRow.lt Hown.out q hq).1) (by simp; omega))⟩
      case measure => simp [intOf]; omega
    · obtain rfl : k = l.length := by omega
      go_wp2
      go_ret
      exact ⟨_, rfl, row_mono Hown.out (Nat.le_of_lt hz1), B2⟩

def small10 (l : List OpD) : Bool := l.all (fun x => decide (x.key.size ≤ 5000 ∧ x.val.size ≤ 5000)) && decide (l.length ≤ 70)
end Go.Proofs.Ytcbkjhbneigkaaa
