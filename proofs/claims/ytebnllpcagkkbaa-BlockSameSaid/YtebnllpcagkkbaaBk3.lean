/- The contract of block.Build. -/
import Derived.Test.YtebnllpcagkkbaaBk2
import Derived.IntWalk
import Derived.Deep.RegionHeld3
namespace Go.Proofs.Ytebnllpcagkkbaa
open Go.RowKit
set_option linter.unusedVariables false
set_option linter.unusedSimpArgs false

def lastK (l : List PairD) (k : Nat) : ByteArray := if k = 0 then ⟨#[]⟩ else (pAt l (k - 1)).key
theorem lastK_succ (l : List PairD) (k : Nat) (h : k < l.length) : lastK l (k + 1) = l[k].key := by
  unfold lastK; rw [if_neg (by omega), Nat.add_sub_cancel, pAt_get h]
def BuildOut (w : World) (every : Nat) (l : List PairD) (e : Ending) (w' : World) : Prop :=
  (Rises l l.length ∧ BytesOut w (buildB every l) e w') ∨ (¬ Rises l l.length ∧ e = .returned (.tuple #[.slice none 0 0, .int .i64 31]) ∧ Below w.heap.size w w')
theorem pairB_len (n : Nat) (x : PairD) (h : n ≤ x.key.size) : (pairB n x).length = (num n).length + (num (x.key.size - n)).length + (num x.val.size).length + (x.key.size - n) + x.val.size := by
  unfold pairB; simp only [List.length_append, List.length_drop, dataLen]
theorem shN_le (every : Nat) (l : List PairD) (i : Nat) : shN every l i ≤ (pAt l i).key.size := by
  unfold shN; split
  · exact Nat.zero_le _
  · have := sharedL_le (pAt l i).key.data.toList (pAt l (i - 1)).key.data.toList
    rw [dataLen] at this
    exact this
theorem rises_succ {l : List PairD} {k : Nat} (h : Rises l k) (hk : k = 0 ∨ leB (pAt l k).key (pAt l (k - 1)).key = false) : Rises l (k + 1) := by
  intro i h0 hi
  by_cases e : i = k
  · subst e
    rcases hk with hk | hk
    · omega
    · exact hk
  · exact h i h0 (by omega)
theorem lastK_size {l : List PairD} (h : ∀ x ∈ l, PairOk x) (k : Nat) (hk : k ≤ l.length) : (lastK l k).size ≤ maxLen := by
  unfold lastK
  split
  · exact Nat.zero_le _
  · rw [pAt_get (show k - 1 < l.length by omega)]; exact (h _ (List.getElem_mem _)).1
theorem extract_drop (u : ByteArray) (n : Nat) : (u.extract n u.size).data.toList = u.data.toList.drop n := by
  rw [ByteArray.data_extract, Array.toList_extract]
  show List.take _ _ = _
  rw [List.take_of_length_le]
  rw [List.length_drop, dataLen]
  exact Nat.le_refl _
def BStF (w0 : World) (p q : Nat) (x : PairD) (n : Nat) (A : List UInt8) (sv : Value) (m : Nat) (xs : List Value) (W : World) : Prop := ∃ r1 r2, BSt w0 p q x n A sv m xs r1 r2 5 W
theorem BSt.forget {w0 : World} {p q : Nat} {x : PairD} {n : Nat} {A : List UInt8} {sv : Value} {m : Nat} {xs : List Value} {r1 r2 : Option Value} {W : World} (h : BSt w0 p q x n A sv m xs r1 r2 5 W) : BStF w0 p q x n A sv m xs W := ⟨r1, r2, h⟩
theorem word4_len (l : List Nat) : (l.flatMap word4).length = 4 * l.length := by
  induction l with
  | nil => rfl
  | cons a l ih => rw [List.flatMap_cons, List.length_append, ih, List.length_cons]; show 4 + _ = _; omega
def StOk (p N : Nat) (L : Array Bool) (t50 t56 t60 t65 t66 t69 t70 : Value) (c : Nat) (r1 r2 : Option Value) : Prop :=
  (N = 7 ∧ L = #[true, false, true, true, true, true, true, false, true, true, true, false, true, true, true, true, false, false, true, true, false, false] ∧ c = 0 ∧ r1 = none ∧ r2 = none) ∨
  (N = 6 ∧ L = #[true, false, true, true, true, true, true, false, true, true, true, false, true, true, true, true, false, false, true, true, true, false] ∧ c = 0 ∧ r1 = none ∧ (∃ y, r2 = some y ∧ t69 = y)) ∨
  (N = 6 ∧ L = #[true, false, true, true, true, true, true, false, true, true, true, false, true, true, true, true, true, false, true, true, false, false] ∧ c = 0 ∧ (∃ y, r1 = some y ∧ t65 = y) ∧ r2 = none) ∨
  (N = 5 ∧ L = #[true, false, true, true, true, true, true, false, true, true, true, false, true, true, true, true, true, false, true, true, true, false] ∧ c = 0 ∧ (∃ y, r1 = some y ∧ t65 = y) ∧ (∃ y, r2 = some y ∧ t69 = y)) ∨
  (N = 6 ∧ L = #[true, true, true, true, true, true, true, false, true, true, true, false, true, true, true, true, false, false, true, true, false, false] ∧ c = 1 ∧ r1 = none ∧ r2 = none ∧ t50 = .pointer (some ⟨p, 0, none⟩)) ∨
  (N = 5 ∧ L = #[true, true, true, true, true, true, true, false, true, true, true, false, true, true, true, true, false, false, true, true, true, false] ∧ c = 1 ∧ r1 = none ∧ (∃ y, r2 = some y ∧ t69 = y) ∧ t50 = .pointer (some ⟨p, 0, none⟩)) ∨
  (N = 5 ∧ L = #[true, true, true, true, true, true, true, false, true, true, true, false, true, true, true, true, true, false, true, true, false, false] ∧ c = 1 ∧ (∃ y, r1 = some y ∧ t65 = y) ∧ r2 = none ∧ t50 = .pointer (some ⟨p, 0, none⟩)) ∨
  (N = 4 ∧ L = #[true, true, true, true, true, true, true, false, true, true, true, false, true, true, true, true, true, false, true, true, true, false] ∧ c = 1 ∧ (∃ y, r1 = some y ∧ t65 = y) ∧ (∃ y, r2 = some y ∧ t69 = y) ∧ t50 = .pointer (some ⟨p, 0, none⟩)) ∨
  (N = 5 ∧ L = #[true, true, true, true, true, true, true, true, true, true, true, false, true, true, true, true, false, false, true, true, false, false] ∧ c = 2 ∧ r1 = none ∧ r2 = none ∧ t50 = .pointer (some ⟨p, 0, none⟩) ∧ t56 = .pointer (some ⟨p, 0, none⟩)) ∨
  (N = 4 ∧ L = #[true, true, true, true, true, true, true, true, true, true, true, false, true, true, true, true, false, false, true, true, true, false] ∧ c = 2 ∧ r1 = none ∧ (∃ y, r2 = some y ∧ t69 = y) ∧ t50 = .pointer (some ⟨p, 0, none⟩) ∧ t56 = .pointer (some ⟨p, 0, none⟩)) ∨
  (N = 4 ∧ L = #[true, true, true, true, true, true, true, true, true, true, true, false, true, true, true, true, true, false, true, true, false, false] ∧ c = 2 ∧ (∃ y, r1 = some y ∧ t65 = y) ∧ r2 = none ∧ t50 = .pointer (some ⟨p, 0, none⟩) ∧ t56 = .pointer (some ⟨p, 0, none⟩)) ∨
  (N = 3 ∧ L = #[true, true, true, true, true, true, true, true, true, true, true, false, true, true, true, true, true, false, true, true, true, false] ∧ c = 2 ∧ (∃ y, r1 = some y ∧ t65 = y) ∧ (∃ y, r2 = some y ∧ t69 = y) ∧ t50 = .pointer (some ⟨p, 0, none⟩) ∧ t56 = .pointer (some ⟨p, 0, none⟩)) ∨
  (N = 4 ∧ L = #[true, true, true, true, true, true, true, true, true, true, true, true, true, true, true, true, false, false, true, true, false, false] ∧ c = 3 ∧ r1 = none ∧ r2 = none ∧ t50 = .pointer (some ⟨p, 0, none⟩) ∧ t56 = .pointer (some ⟨p, 0, none⟩) ∧ t60 = .pointer (some ⟨p, 0, none⟩)) ∨
  (N = 3 ∧ L = #[true, true, true, true, true, true, true, true, true, true, true, true, true, true, true, true, false, false, true, true, true, false] ∧ c = 3 ∧ r1 = none ∧ (∃ y, r2 = some y ∧ t69 = y) ∧ t50 = .pointer (some ⟨p, 0, none⟩) ∧ t56 = .pointer (some ⟨p, 0, none⟩) ∧ t60 = .pointer (some ⟨p, 0, none⟩)) ∨
  (N = 3 ∧ L = #[true, true, true, true, true, true, true, true, true, true, true, true, true, true, true, true, true, false, true, true, false, false] ∧ c = 3 ∧ (∃ y, r1 = some y ∧ t65 = y) ∧ r2 = none ∧ t50 = .pointer (some ⟨p, 0, none⟩) ∧ t56 = .pointer (some ⟨p, 0, none⟩) ∧ t60 = .pointer (some ⟨p, 0, none⟩)) ∨
  (N = 2 ∧ L = #[true, true, true, true, true, true, true, true, true, true, true, true, true, true, true, true, true, false, true, true, true, false] ∧ c = 3 ∧ (∃ y, r1 = some y ∧ t65 = y) ∧ (∃ y, r2 = some y ∧ t69 = y) ∧ t50 = .pointer (some ⟨p, 0, none⟩) ∧ t56 = .pointer (some ⟨p, 0, none⟩) ∧ t60 = .pointer (some ⟨p, 0, none⟩)) ∨
  (N = 2 ∧ L = #[true, true, true, true, true, true, true, true, true, true, true, true, true, true, true, true, true, true, true, true, false, false] ∧ c = 4 ∧ (∃ y, r1 = some y ∧ t65 = y) ∧ r2 = none ∧ t50 = .pointer (some ⟨p, 0, none⟩) ∧ t56 = .pointer (some ⟨p, 0, none⟩) ∧ t60 = .pointer (some ⟨p, 0, none⟩) ∧ t66 = .pointer (some ⟨p, 0, none⟩)) ∨
  (N = 1 ∧ L = #[true, true, true, true, true, true, true, true, true, true, true, true, true, true, true, true, true, true, true, true, true, false] ∧ c = 4 ∧ (∃ y, r1 = some y ∧ t65 = y) ∧ (∃ y, r2 = some y ∧ t69 = y) ∧ t50 = .pointer (some ⟨p, 0, none⟩) ∧ t56 = .pointer (some ⟨p, 0, none⟩) ∧ t60 = .pointer (some ⟨p, 0, none⟩) ∧ t66 = .pointer (some ⟨p, 0, none⟩)) ∨
  (N = 0 ∧ L = #[true, true, true, true, true, true, true, true, true, true, true, true, true, true, true, true, true, true, true, true, true, true] ∧ c = 5 ∧ (∃ y, r1 = some y ∧ t65 = y) ∧ (∃ y, r2 = some y ∧ t69 = y) ∧ t50 = .pointer (some ⟨p, 0, none⟩) ∧ t56 = .pointer (some ⟨p, 0, none⟩) ∧ t60 = .pointer (some ⟨p, 0, none⟩) ∧ t66 = .pointer (some ⟨p, 0, none⟩))
theorem held_all {P : Program} {md : Region.Mode} {ops : Array Oper} {Q : Exit → Act → World → Prop} {S : World → Prop} {mk : Value → Value → Value → Value → Value → Value → Value → Act}
    (Ok : Nat → Array Bool → Value → Value → Value → Value → Value → Value → Value → World → Prop) {N0 : Nat} {L0 : Array Bool} {W0 : World} (h0 : ∀ a b c d e f g, Ok N0 L0 a b c d e f g W0)
    (hall : ∀ N L W a b c d e f g, Ok N L a b c d e f g W → wpAnyH P md ops Q S N L (mk a b c d e f g) W) : ∀ a b c d e f g, wpAnyH P md ops Q S N0 L0 (mk a b c d e f g) W0 := fun a b c d e f g => hall _ _ _ _ _ _ _ _ _ _ (h0 a b c d e f g)
theorem stok_zero {p : Nat} {L : Array Bool} {t50 t56 t60 t65 t66 t69 t70 : Value} {c : Nat} {r1 r2 : Option Value} (h : StOk p 0 L t50 t56 t60 t65 t66 t69 t70 c r1 r2) : L = #[true, true, true, true, true, true, true, true, true, true, true, true, true, true, true, true, true, true, true, true, true, true] ∧ c = 5 := by
  unfold StOk at h
  rcases h with h | h | h | h | h | h | h | h | h | h | h | h | h | h | h | h | h | h | h
  all_goals first | (exact absurd h.1 (by decide)) | exact ⟨h.2.1, h.2.2.1⟩
theorem row_ne {w : World} {B sz n q : Nat} {e T : TypeId} {v : Value} {xs : List Value} {cs : Array Value} {fr : Nat × Nat} (h : w.ownsRow B e sz v n xs) (hq : w.heap[q]? = some (.cells cs T fr)) (hT : T ≠ e) : v.ownBlock ≠ some q := by
  rcases h.2 with ⟨rfl, _⟩ | ⟨g, cap, cur, rfl, _, hh, _⟩
  · intro h; cases h
  · intro h
    obtain rfl : g = q := by simpa [Value.ownBlock] using h
    rw [hh] at hq
    simp only [Option.some.injEq, Obj.cells.injEq] at hq
    exact hT hq.2.1.symm

set_option maxRecDepth 100000 in
set_option maxHeartbeats 8000000 in
theorem build_any {w : World} {a : Option Addr} {c : Nat} {l : List PairD} (h : PRs w a l) (every : Nat) (he1 : 1 ≤ every) (he2 : every ≤ 64) (hl : l.length ≤ 1000000) (hsz : ∀ x ∈ l, x.key.size ≤ 1000000 ∧ x.val.size ≤ 1000000) (hbl : (bodyB every l l.length).length < 4294967296) :
    Calls Try.prog 15 #[.slice a l.length c, .int .i64 every] w (BuildOut w every l) := by
  have H := Lib.hid h
  have Hbl := Lib.hid hbl
  have Hsz := Lib.hid hsz
  have HR0 : Hid (Rises l 0) := Lib.hid fun i h1 h2 => by omega
  clear h hbl hsz
  go_enter Try.func15, Try.ntmps15
  go_upto_region 6 with fail
  refine gen_wp (fun w' => w'.heap[w.heap.size]? = some (.cells #[.slice none 0 0, .bool false] 53 (0, 0)) ∧ Below w.heap.size w w') ?_ ?_
  · exact ⟨heap_alloc_new w _, (Below.refl _ w).alloc (Nat.le_refl _) _⟩
  rintro w1 ⟨hp1, B1⟩
  have hpw : w.heap.size ≤ w.heap.size := Nat.le_refl _
  have HW1 : Hid (WR w1 w.heap.size w.heap.size (.slice none 0 0) [] false) := Lib.hid ⟨hp1, OB.nil _ _, by intro h; cases h⟩
  have hp1 := blk_lt hp1
  have HB1 := Lib.hid B1
  have Hpw := Lib.hid hpw
  obtain ⟨p, hpe⟩ : ∃ p, p = w.heap.size := ⟨_, rfl⟩
  rw [← hpe] at HW1 hp1 ⊢
  have Hpw : Hid (w.heap.size ≤ p) := Lib.hid (Nat.le_of_eq hpe.symm)
  clear hpe hpw B1
  have hinf := infoU32
  obtain ⟨i0, hi, hzo, hz3, hzb⟩ := info_parts hinf
  have Hi := Lib.hid hi
  have Hz0 := Lib.hid hzo
  have Hz3 := Lib.hid hz3
  have Hzb := Lib.hid hzb
  clear hi hzo hz3 hzb hinf
  have hw32 : ∀ n : Nat, n < 4294967296 → IntKind.u32.wrap (n : Int) = n := fun n hn => by simp only [IntKind.wrap, IntKind.bits, IntKind.signed]; simp; omega
  have Hw32 := Lib.hid hw32
  clear hw32
  go_wp2
  go_loopw [7, 8, 9, 23] (fun sv sz la i wr => ∃ (k : Nat) (v : Value), k ≤ l.length ∧ i = .int .i64 k ∧ sz = .int .i64 (bodyB every l k).length ∧ la = .string (lastK l k) ∧ WR wr p p v (bodyB every l k) false ∧ wr.ownsRow (p + 1) 55 1 sv (starts every l k).length (u32s (starts every l k)) ∧ Rises l k ∧ Below w.heap.size w wr) (fun _ _ _ i _ => l.length - (intOf i).toNat)
  case atStart => exact ⟨0, _, Nat.zero_le _, rfl, rfl, rfl, HW1.out, World.ownsRow_nil _ _ _ _, HR0.out, HB1.out⟩
  case round =>
    obtain ⟨k, v, hk, rfl, rfl, rfl, hw, hs, hri, hbr⟩ := hrel
    have HW := Lib.hid hw
    have HS := Lib.hid hs
    have Hri := Lib.hid hri
    have hbk := bodyB_mono every l hk
    have hb2 := Hbl.out
    have hbl2 : (bodyB every l k).length < 4294967296 := by omega
    have hsl := starts_le every l k
    clear hw hs hri hbk hb2
    by_cases hlt : k < l.length
    case neg =>
      obtain rfl : k = l.length := by omega
      obtain ⟨ao7, c7, rfl, hs71, hs72, hs73⟩ := row_shape HS.out
      unfold maxLen at hs72
      have hsl32 : (starts every l l.length).length < 4294967296 := by omega
      have hw32 := Hw32.out _ hsl32
      have hbz : p + 1 ≤ wr.heap.size := by have := blk_lt HW.out.1; omega
      obtain ⟨m, hm⟩ : ∃ m, (starts every l l.length).length + 1 = m := ⟨_, rfl⟩
      have Hm := Lib.hid hm
      have hm1 : m ≤ 1000001 := by omega
      have hm0 : 0 < m := by omega
      have hmI : ((starts every l l.length).length : Int) + 1 = (m : Int) := by omega
      clear hs73 hm
      go_wp2_with (at_builtin; go_loud (refine wpList_appN rfl (.tmp 100) (.tmp 104) 54 55 i0 (.int .u32 0) 1 4 Try.underlying54 Hi.out Hz0.out Hz3.out Hzb.out rfl (by decide) rfl (p + 1) (.slice ao7 (starts every l l.length).length c7) (starts every l l.length).length (u32s (starts every l l.length)) rfl HS.out #[.int .u32 (starts every l l.length).length] 1 1 (by first | rfl | (simp; done) | (simp; rfl)) rfl (by intro u hu; simp at hu; subst hu; rfl) (by unfold maxLen; omega) (by omega) (by first | exact hbz | (simp; omega)) ?_); intro v2 w2' ho2 hold2 ha2; rw [Hm.out] at ho2; obtain ⟨ao2, c2, rfl, hs81, hs82, hs83⟩ := row_shape ho2)
      obtain ⟨g, rfl, _, _⟩ := hs83 (by omega)
      have hT : Hid (u32s (starts every l l.length) ++ #[Value.int .u32 (starts every l l.length).length].toList = u32s (tailB every l)) := Lib.hid (by unfold tailB; rw [u32s_append]; rfl)
      rw [hT.out] at ho2
      have HO2 := Lib.hid ho2
      have HW2 := Lib.hid (wr_app32 HW.out HS.out ha2)
      have HB2 := Lib.hid (hbr.trans ((Chg.of_app ha2).below (fun k hk => by have := (World.ownsRow.lt HS.out k hk).1; have := Hpw.out; omega) hbr.size))
      have hTl : Hid ((tailB every l).length = (starts every l l.length).length + 1) := Lib.hid (by unfold tailB; rw [List.length_append]; rfl)
      have hTs : Hid (∀ j (h : j < (tailB every l).length), (tailB every l)[j] < 4294967296) := Lib.hid fun j h => by
        have hm := List.getElem_mem h
        unfold tailB at hm
        rcases List.mem_append.1 hm with hm | hm
        · have := starts_small every l l.length _ hm
          unfold tailB
          omega
        · rw [List.mem_singleton] at hm
          unfold tailB
          omega
      clear ho2 hold2 hs81 hs82 hs83
      rw [Hm.out] at hTl
      go_loopw [107] (fun i wx => ∃ (j : Nat) (v : Value), j ≤ m ∧ i = .int .i64 j ∧ WR wx p p v (bodyB every l l.length ++ ((tailB every l).take j).flatMap word4) false ∧ wx.ownsRow (p + 1) 55 1 (.slice (some ⟨g, 0, none⟩) m c2) m (u32s (tailB every l)) ∧ Below w.heap.size w wx) (fun i _ => m - (intOf i).toNat)
      case atStart => exact ⟨0, v, Nat.zero_le _, rfl, by rw [List.take_zero]; simpa using HW2.out, HO2.out, HB2.out⟩
      case round =>
        obtain ⟨j, v3, hj, rfl, hw3, ho3, hb3⟩ := hrel
        have HW3 := Lib.hid hw3
        have HO3 := Lib.hid ho3
        have hlen3 : (bodyB every l l.length ++ ((tailB every l).take j).flatMap word4).length ≤ 4294967296 + 4 * 1000001 := by
          rw [List.length_append, word4_len, List.length_take]; omega
        clear hw3 ho3
        by_cases hlt3 : j < m
        · have hjT : j < (tailB every l).length := by rw [hTl.out]; exact hlt3
          have hcell := World.ownsRow.cellAt HO3.out j (by omega)
          have hcj : wr.cell? ⟨g, j, none⟩ = some (.int .u32 ((tailB every l)[j] : Nat)) := by
            rw [hcell]; simp [u32s, hjT]
          have h32 := hTs.out j hjT
          have Hwd : Hid (∀ W : World, Calls Try.prog 30 #[.int .u32 ((tailB every l)[j] : Nat)] W fun e w' => ∃ v, e = .returned v ∧ RB w' v (word4 (tailB every l)[j]) ∧ Below W.heap.size W w') := Lib.hid fun W => word_any _ W h32
          have Hfin : Hid (((tailB every l).take (j + 1)).flatMap word4 = ((tailB every l).take j).flatMap word4 ++ word4 (tailB every l)[j]) := Lib.hid (by
            rw [List.take_succ_eq_append_getElem hjT, List.flatMap_append]; simp)
          have hw4 : (word4 (tailB every l)[j]).length = 4 := rfl
          generalize (tailB every l)[j] = y at *
          clear hcell hTs
          go_wp2_with fail; (with_reducible refine (Hwd.out _).mono ?_); rintro e w4 ⟨u4', rfl, hr4, hb4⟩
          have hwr4 := wrawC (HW3.out.below hb4) hr4 (by omega)
          have Hwr4 := Lib.hid hwr4
          have HO4 := Lib.hid (row_past HO3.out hb4 (Nat.le_refl _))
          have HW4 := Lib.hid (HW3.out.below hb4)
          have hB4 := bnext hb3 hb4
          clear hwr4 hr4 hcj
          go_wp2_with fail; (with_reducible refine (Hwr4.out).mono ?_); rintro e w5 ⟨rfl, v5, hw5, hc5, hl5⟩
          have HO5 := Lib.hid (row32_chg HO4.out HW4.out hc5)
          have HW5 := Lib.hid hw5
          have hB5 := hB4.trans (hc5.below (fun k hk => Nat.le_trans Hpw.out (HW4.out.ge (Nat.le_refl _) k hk)) hB4.size)
          clear hw5 hc5 hl5
          go_wp2
          go_roundw
          case rel => exact ⟨j + 1, v5, by omega, by go_num, by rw [Hfin.out, ← List.append_assoc]; exact HW5.out, HO5.out, hB5⟩
          case measure => simp [intOf]; omega
        · obtain rfl : j = m := by omega
          have htk : (tailB every l).take j = tailB every l := List.take_of_length_le (by rw [hTl.out]; exact Nat.le_refl _)
          rw [htk] at HW3 hlen3
          have hby := wbyte HW3.out (UInt8.ofNat every) (by omega) (Nat.le_of_lt (HW3.out.lt p (.inl rfl)))
          rw [show ((UInt8.ofNat every).toNat : Int) = (every : Int) by rw [toNat_ofNat8]; omega] at hby
          have Hby := Lib.hid hby
          have HBB : Hid (bodyB every l l.length ++ (tailB every l).flatMap word4 ++ [UInt8.ofNat every] = buildB every l) := Lib.hid rfl
          clear hby htk
          go_wp2_with fail; (with_reducible refine (Hby.out).mono ?_); rintro e w6 ⟨rfl, v6, hw6, hc6, hl6⟩
          rw [HBB.out] at hw6
          have hB6 := hb3.trans (hc6.below (fun k hk => Nat.le_trans Hpw.out (HW3.out.ge (Nat.le_refl _) k hk)) hb3.size)
          have hbl6 : (buildB every l).length ≤ 140737488355328 := by rw [← HBB.out, List.length_append]; simp only [List.length_cons, List.length_nil]; omega
          have hbt := wbytes hw6 hbl6
          have Hbt := Lib.hid hbt
          clear hbt hw6 hc6 hl6
          go_wp2_with fail; (with_reducible refine (Hbt.out).mono ?_); rintro e w7 ⟨v7, rfl, ho7, ⟨g7, rfl⟩, hb7⟩
          have HO7 := Lib.hid ho7
          clear ho7
          go_wp2
          go_ret2
          exact .inl ⟨Hri.out, _, rfl, HO7.out.mono hB6.size, ⟨g7, rfl⟩, bnext hB6 hb7⟩
    case pos =>
      obtain ⟨b, off, rfl, f0, f1⟩ := H.out.cells hbr k hlt
      have hxo := H.out.2 _ (List.getElem_mem hlt)
      have hpk := pAt_get hlt
      have hln := lastK_succ l k hlt
      have Hpk := Lib.hid hpk
      have Hln := Lib.hid hln
      have Hxo := Lib.hid hxo
      obtain ⟨hxk, hxv⟩ := Hsz.out _ (List.getElem_mem hlt)
      obtain ⟨hx1, hx2⟩ := hxo
      unfold maxLen at hx1 hx2
      clear hpk hln
      generalize l[k] = x at *
      go_upto_region 9 with fail
      refine gen_wp (fun w' => w'.heap[wr.heap.size]? = some (.cells #[.string x.key, .string x.val] 35 (0, 0)) ∧ WR w' p p v (bodyB every l k) false ∧ ¬ fpW p v wr.heap.size ∧ w'.ownsRow (p + 1) 55 1 u7 (starts every l k).length (u32s (starts every l k)) ∧ Below w.heap.size w w' ∧ p + 1 ≤ w'.heap.size) ?_ ?_
      · exact ⟨heap_alloc_new wr _, wr_alloc HW.out _, nf_fresh HW.out (Nat.le_refl _), World.ownsRow.alloc HS.out _, hbr.alloc hbr.size _, by have := blk_lt HW.out.1; simp; omega⟩
      rintro w5 ⟨hblk, hw5, hfp, hs5, B5, hp5⟩
      have hbwr := Lib.hid hbr
      generalize wr.heap.size = q at *
      have HW5 := Lib.hid hw5
      have Hfp := Lib.hid hfp
      have Hblk := Lib.hid hblk
      have HS5 := Lib.hid hs5
      obtain ⟨c0, c1, _⟩ := cell_two hblk
      clear hw5 hfp hs5 hblk f0 f1 HW HS
      have hls := lastK_size H.out.2 k (by omega)
      unfold maxLen at hls
      have hko : (0 < k ∧ leB x.key (lastK l k) = true) ∨ k = 0 ∨ (0 < k ∧ Op.bytesLess x.key.toList (lastK l k).toList = false ∧ (x.key.toList == (lastK l k).toList) = false) := by
        rcases Nat.eq_zero_or_pos k with h0 | h0
        · exact .inr (.inl h0)
        · cases h : leB x.key (lastK l k) with
          | true => exact .inl ⟨h0, rfl⟩
          | false => unfold leB at h; rw [Bool.or_eq_false_iff] at h; exact .inr (.inr ⟨h0, h⟩)
      rcases hko with ⟨h0, hle⟩ | hko
      · have hnr : ¬ Rises l l.length := fun h => by
          have h2 := h k h0 hlt
          unfold lastK at hle
          rw [if_neg (by omega)] at hle
          rw [Hpk.out, hle] at h2
          cases h2
        have Hnr := Lib.hid hnr
        clear hnr
        unfold leB at hle
        rw [Bool.or_eq_true] at hle
        have h0' : (0 : Int) < (k : Int) := by omega
        cases hb1 : Op.bytesLess x.key.toList (lastK l k).toList with
        | true =>
          clear hle
          go_wp2
          go_ret2
          exact .inr ⟨Hnr.out, rfl, B5⟩
        | false =>
          have hb2 : (x.key.toList == (lastK l k).toList) = true := by
            rcases hle with h | h
            · rw [hb1] at h; cases h
            · exact h
          clear hle
          go_wp2
          go_ret2
          exact .inr ⟨Hnr.out, rfl, B5⟩
      have Hri2 : Hid (Rises l (k + 1)) := Lib.hid (rises_succ Hri.out (by
        rcases hko with h | ⟨h0, h1, h2⟩
        · exact .inl h
        · right
          unfold lastK at h1 h2
          rw [if_neg (by omega)] at h1 h2
          rw [Hpk.out]
          unfold leB
          rw [h1, h2]; rfl))
      go_cut [35] from 28 to 35 (fun t wx => t = .bool false ∧ w5 = wx)
      case first =>
        rcases hko with rfl | ⟨h0, h1, h2⟩
        · go_wp2
          go_meet
          exact ⟨rfl, rfl⟩
        · have h0' : (0 : Int) < (k : Int) := by omega
          go_wp2
          go_meet
          exact ⟨rfl, rfl⟩
      case rest =>
        obtain ⟨rfl, rfl⟩ := hcut
        have Hko := Lib.hid hko
        clear hko
        have hnk : shN every l k ≤ x.key.size := by have := shN_le every l k; rw [Hpk.out] at this; exact this
        obtain ⟨tb, htb⟩ : ∃ tb : Bool, ((k : Int) % (every : Int) == 0) = tb := ⟨_, rfl⟩
        go_upto_if 39 with (fail)
        have Htb := Lib.hid htb
        clear htb
        go_cut [7, 12] from 40 to 70 (fun sv nn wx => nn = .int .i64 (shN every l k) ∧ BSt w p q x (shN every l k) (bodyB every l k) sv (starts every l (k + 1)).length (u32s (starts every l (k + 1))) none none 0 wx)
        case first =>
          cases tb with
          | true =>
            have hm0 : k % every = 0 := by have := Htb.out; rw [beq_iff_eq] at this; omega
            have Hst := Lib.hid (starts_yes (l := l) hm0)
            have Hsh : Hid (shN every l k = 0) := Lib.hid (by unfold shN; rw [if_pos hm0])
            have hw32 := Hw32.out _ hbl2
            have hbz : p + 1 ≤ w5.heap.size := hp5
            clear hm0
            go_wp2_with (at_builtin; go_loud (refine wpList_appN rfl (.tmp 40) (.tmp 43) 54 55 i0 (.int .u32 0) 1 4 Try.underlying54 Hi.out Hz0.out Hz3.out Hzb.out rfl (by decide) rfl (p + 1) u7 (starts every l k).length (u32s (starts every l k)) rfl HS5.out #[.int .u32 (bodyB every l k).length] 1 1 (by first | rfl | (simp; done) | (simp; rfl)) rfl (by intro u hu; simp at hu; subst hu; rfl) (by unfold maxLen; omega) (by omega) (by first | exact hbz | (simp; omega)) ?_); intro v2 w2' ho2 hold2 ha2)
            go_meet
            refine ⟨by rw [Hsh.out]; rfl, v, wr_app32 HW5.out HS5.out ha2, blk_chg Hblk.out (Chg.of_app ha2) (row_ne HS5.out Hblk.out (by decide)), Hfp.out, ?_, (fun u h => by cases h), (fun u h => by cases h), B5.trans ((Chg.of_app ha2).below (fun k hk => by have := (World.ownsRow.lt HS5.out k hk).1; have := Hpw.out; omega) B5.size), Hpw.out⟩
            rw [Hst.out, List.length_append, u32s_append]
            exact ho2
          | false =>
            have hm0 : ¬ k % every = 0 := by have := Htb.out; rw [beq_eq_false_iff_ne] at this; omega
            have Hst := Lib.hid (starts_no (l := l) hm0)
            have hk0 : k ≠ 0 := fun e => hm0 (by rw [e, Nat.zero_mod])
            have hsh : shN every l k = sharedB x.key (lastK l k) := by
              unfold shN lastK; rw [if_neg hm0, if_neg hk0, Hpk.out]
            have hsc := fun W => shared_any x.key (lastK l k) W Hxo.out.1 (lastK_size H.out.2 k (by omega)) (shN every l k : Nat) (by rw [hsh])
            have Hsc := Lib.hid hsc
            clear hm0 hk0 hsh hsc
            go_wp2_with fail; (with_reducible refine (Hsc.out _).mono ?_); rintro e w6 ⟨rfl, hb6⟩
            have HB6 := Lib.hid hb6
            clear hb6
            go_wp2
            go_meet
            refine ⟨rfl, v, HW5.out.below HB6.out, (HB6.out.block q (blk_lt Hblk.out)).trans Hblk.out, Hfp.out, ?_, (fun u h => by cases h), (fun u h => by cases h), bnext B5 HB6.out, Hpw.out⟩
            rw [Hst.out]
            exact row_past HS5.out HB6.out (Nat.le_refl _)
        case rest =>
          obtain ⟨rfl, hst⟩ := hcut
          have HS := Lib.hid hst.drew
          have hsc := hst.cells
          have hxs := pairB_len (shN every l k) x hnk
          have hbs := bodyB_succ every l k
          rw [Hpk.out] at hbs
          have hbm := bodyB_mono every l (show k + 1 ≤ l.length by omega)
          rw [hbs, List.length_append, hxs] at hbm
          have hbl3 := Hbl.out
          have Hbs := Lib.hid hbs
          have Hxs := Lib.hid hxs
          have Hbm := Lib.hid hbm
          clear hst hxs hbs hbm hbl3 hx1 hx2 c0 c1 hls HW5 Hblk HS5 Hfp
          obtain ⟨c0, c1⟩ := hsc
          have hAl : (bodyB every l k).length ≤ 4294967296 := by omega
          generalize hN : shN every l k = n at *
          have HN := Lib.hid hN
          clear hN
          have Hs1 : Hid (∀ r1 r2 W, BSt w p q x n (bodyB every l k) u7 (starts every l (k + 1)).length (u32s (starts every l (k + 1))) r1 r2 0 W → Calls Try.prog 27 #[.pointer (some ⟨p, 0, none⟩), .int .i64 n] W fun e W' => e = .returned (.pointer (some ⟨p, 0, none⟩)) ∧ BSt w p q x n (bodyB every l k) u7 (starts every l (k + 1)).length (u32s (starts every l (k + 1))) r1 r2 1 W') :=
            Lib.hid fun r1 r2 W h => bst_num hAl Hxo.out hnk (Nat.le_trans hxk (by decide)) (Nat.le_trans hxv (by decide)) 0 n (by omega) rfl _ rfl r1 r2 W h
          have Hs2 : Hid (∀ r1 r2 W, BSt w p q x n (bodyB every l k) u7 (starts every l (k + 1)).length (u32s (starts every l (k + 1))) r1 r2 1 W → Calls Try.prog 27 #[.pointer (some ⟨p, 0, none⟩), .int .i64 ((x.key.size : Int) - (n : Int))] W fun e W' => e = .returned (.pointer (some ⟨p, 0, none⟩)) ∧ BSt w p q x n (bodyB every l k) u7 (starts every l (k + 1)).length (u32s (starts every l (k + 1))) r1 r2 2 W') :=
            Lib.hid fun r1 r2 W h => bst_num hAl Hxo.out hnk (Nat.le_trans hxk (by decide)) (Nat.le_trans hxv (by decide)) 1 (x.key.size - n) (by omega) rfl _ (by omega) r1 r2 W h
          have Hs3 : Hid (∀ r1 r2 W, BSt w p q x n (bodyB every l k) u7 (starts every l (k + 1)).length (u32s (starts every l (k + 1))) r1 r2 2 W → Calls Try.prog 27 #[.pointer (some ⟨p, 0, none⟩), .int .i64 (x.val.size : Int)] W fun e W' => e = .returned (.pointer (some ⟨p, 0, none⟩)) ∧ BSt w p q x n (bodyB every l k) u7 (starts every l (k + 1)).length (u32s (starts every l (k + 1))) r1 r2 3 W') :=
            Lib.hid fun r1 r2 W h => bst_num hAl Hxo.out hnk (Nat.le_trans hxk (by decide)) (Nat.le_trans hxv (by decide)) 2 x.val.size (by omega) rfl _ rfl r1 r2 W h
          have Hs4 : Hid (∀ u r2 W, BSt w p q x n (bodyB every l k) u7 (starts every l (k + 1)).length (u32s (starts every l (k + 1))) (some u) r2 3 W → Calls Try.prog 28 #[.pointer (some ⟨p, 0, none⟩), u] W fun e W' => e = .returned (.pointer (some ⟨p, 0, none⟩)) ∧ BSt w p q x n (bodyB every l k) u7 (starts every l (k + 1)).length (u32s (starts every l (k + 1))) (some u) r2 4 W') :=
            Lib.hid fun u r2 W h => bst_raw1 hAl Hxo.out hnk (Nat.le_trans hxk (by decide)) (Nat.le_trans hxv (by decide)) u r2 W h
          have Hs5 : Hid (∀ u r1 W, BSt w p q x n (bodyB every l k) u7 (starts every l (k + 1)).length (u32s (starts every l (k + 1))) r1 (some u) 4 W → Calls Try.prog 28 #[.pointer (some ⟨p, 0, none⟩), u] W fun e W' => e = .returned (.pointer (some ⟨p, 0, none⟩)) ∧ BSt w p q x n (bodyB every l k) u7 (starts every l (k + 1)).length (u32s (starts every l (k + 1))) r1 (some u) 5 W') :=
            Lib.hid fun u r1 W h => bst_raw2 hAl Hxo.out hnk (Nat.le_trans hxk (by decide)) (Nat.le_trans hxv (by decide)) u r1 W h
          have hn0 : (0 : Int) ≤ (n : Int) := by omega
          have hnkI : (n : Int) ≤ (x.key.size : Int) := by omega
          have hwr : IntKind.i64.wrap ((x.key.size : Int) - (n : Int)) = (x.key.size : Int) - (n : Int) := IntWalk.i64_in _ (by omega)
          go_upto_region 15 with (fail)
          go_cut [] from 49 to 70 (fun wx => BStF w p q x n (bodyB every l k) u7 (starts every l (k + 1)).length (u32s (starts every l (k + 1))) wx)
          case first =>
            obtain ⟨uk, huk⟩ : ∃ uk, x.key.extract n x.key.size = uk := ⟨_, rfl⟩
            have Hu : Hid (uk.data.toList = x.key.data.toList.drop n) := Lib.hid (by rw [← huk]; exact extract_drop _ _)
            refine wp_region_noPanic ?_
            refine wp_region_held_drew (S := fun w' => w'.cell? ⟨q, 0, none⟩ = some (.string x.key) ∧ w'.cell? ⟨q, 1, none⟩ = some (.string x.val)) (by kernel_rfl) ?_ (fun hHeld => ?_)
            · exact ⟨c0, c1⟩
            refine wpAnyH_take (i := 0) (oi := ⟨some 49, _, _, _, _, _⟩) (v := ?_) rfl (by kernel_rfl) (by kernel_rfl) (by kernel_rfl) (fun _ _ _ h => h) (Or.inl ⟨by rfl, ?_⟩) (by assumption) ?_
            rotate_left
            · intro w hSw
              (try dsimp only at hSw)
              go_simp
              (try with_reducible rfl)
            (try simp only [Act.put, List.setIfInBounds_toArray, List.set_cons_zero, List.set_cons_succ])
            refine wpAnyH_take (i := 2) (oi := ⟨some 51, _, _, _, _, _⟩) (v := ?_) rfl (by kernel_rfl) (by kernel_rfl) (by kernel_rfl) (fun _ _ _ h => h) (Or.inl ⟨by rfl, ?_⟩) (by assumption) ?_
            rotate_left
            · intro w hSw
              (try dsimp only at hSw)
              go_simp
              (try with_reducible rfl)
            (try simp only [Act.put, List.setIfInBounds_toArray, List.set_cons_zero, List.set_cons_succ])
            refine wpAnyH_take (i := 3) (oi := ⟨some 52, _, _, _, _, _⟩) (v := ?_) rfl (by kernel_rfl) (by kernel_rfl) (by kernel_rfl) (fun _ _ _ h => h) (Or.inl ⟨by rfl, ?_⟩) (by assumption) ?_
            rotate_left
            · intro w hSw
              (try dsimp only at hSw)
              go_simp
              (try with_reducible rfl)
            (try simp only [Act.put, List.setIfInBounds_toArray, List.set_cons_zero, List.set_cons_succ])
            refine wpAnyH_take (i := 4) (oi := ⟨some 53, _, _, _, _, _⟩) (v := ?_) rfl (by kernel_rfl) (by kernel_rfl) (by kernel_rfl) (fun _ _ _ h => h) (Or.inl ⟨by rfl, ?_⟩) (by assumption) ?_
            rotate_left
            · intro w hSw
              (try dsimp only at hSw)
              go_simp
              (try with_reducible rfl)
            (try simp only [Act.put, List.setIfInBounds_toArray, List.set_cons_zero, List.set_cons_succ])
            refine wpAnyH_take (i := 5) (oi := ⟨some 54, _, _, _, _, _⟩) (v := ?_) rfl (by kernel_rfl) (by kernel_rfl) (by kernel_rfl) (fun _ _ _ h => h) (Or.inl ⟨by rfl, ?_⟩) (by assumption) ?_
            rotate_left
            · intro w hSw
              (try dsimp only at hSw)
              go_simp
              (try with_reducible rfl)
            (try simp only [Act.put, List.setIfInBounds_toArray, List.set_cons_zero, List.set_cons_succ])
            refine wpAnyH_take (i := 6) (oi := ⟨some 55, _, _, _, _, _⟩) (v := ?_) rfl (by kernel_rfl) (by kernel_rfl) (by kernel_rfl) (fun _ _ _ h => h) (Or.inl ⟨by rfl, ?_⟩) (by assumption) ?_
            rotate_left
            · intro w hSw
              (try dsimp only at hSw)
              go_simp
              (try with_reducible rfl)
            (try simp only [Act.put, List.setIfInBounds_toArray, List.set_cons_zero, List.set_cons_succ])
            refine wpAnyH_take (i := 8) (oi := ⟨some 57, _, _, _, _, _⟩) (v := ?_) rfl (by kernel_rfl) (by kernel_rfl) (by kernel_rfl) (fun _ _ _ h => h) (Or.inl ⟨by rfl, ?_⟩) (by assumption) ?_
            rotate_left
            · intro w hSw
              (try dsimp only at hSw)
              go_simp
              (try with_reducible rfl)
            (try simp only [Act.put, List.setIfInBounds_toArray, List.set_cons_zero, List.set_cons_succ])
            refine wpAnyH_take (i := 9) (oi := ⟨some 58, _, _, _, _, _⟩) (v := ?_) rfl (by kernel_rfl) (by kernel_rfl) (by kernel_rfl) (fun _ _ _ h => h) (Or.inl ⟨by rfl, ?_⟩) (by assumption) ?_
            rotate_left
            · intro w hSw
              (try dsimp only at hSw)
              go_simp
              (try with_reducible rfl)
            (try simp only [Act.put, List.setIfInBounds_toArray, List.set_cons_zero, List.set_cons_succ])
            refine wpAnyH_take (i := 10) (oi := ⟨some 59, _, _, _, _, _⟩) (v := ?_) rfl (by kernel_rfl) (by kernel_rfl) (by kernel_rfl) (fun _ _ _ h => h) (Or.inl ⟨by rfl, ?_⟩) (by assumption) ?_
            rotate_left
            · intro w hSw
              (try dsimp only at hSw)
              go_simp
              (try with_reducible rfl)
            (try simp only [Act.put, List.setIfInBounds_toArray, List.set_cons_zero, List.set_cons_succ])
            refine wpAnyH_take (i := 12) (oi := ⟨some 61, _, _, _, _, _⟩) (v := ?_) rfl (by kernel_rfl) (by kernel_rfl) (by kernel_rfl) (fun _ _ _ h => h) (Or.inl ⟨by rfl, ?_⟩) (by assumption) ?_
            rotate_left
            · intro w hSw
              (try dsimp only at hSw)
              go_simp
              (try with_reducible rfl)
            (try simp only [Act.put, List.setIfInBounds_toArray, List.set_cons_zero, List.set_cons_succ])
            refine wpAnyH_take (i := 13) (oi := ⟨some 62, _, _, _, _, _⟩) (v := ?_) rfl (by kernel_rfl) (by kernel_rfl) (by kernel_rfl) (fun _ _ _ h => h) (Or.inl ⟨by rfl, ?_⟩) (by assumption) ?_
            rotate_left
            · intro w hSw
              (try dsimp only at hSw)
              go_simp
              (try with_reducible rfl)
            (try simp only [Act.put, List.setIfInBounds_toArray, List.set_cons_zero, List.set_cons_succ])
            refine wpAnyH_take (i := 14) (oi := ⟨some 63, _, _, _, _, _⟩) (v := ?_) rfl (by kernel_rfl) (by kernel_rfl) (by kernel_rfl) (fun _ _ _ h => h) (Or.inl ⟨by rfl, ?_⟩) (by assumption) ?_
            rotate_left
            · intro w hSw
              (try dsimp only at hSw)
              go_simp
              (try with_reducible rfl)
            (try simp only [Act.put, List.setIfInBounds_toArray, List.set_cons_zero, List.set_cons_succ])
            refine wpAnyH_take (i := 15) (oi := ⟨some 64, _, _, _, _, _⟩) (v := ?_) rfl (by kernel_rfl) (by kernel_rfl) (by kernel_rfl) (fun _ _ _ h => h) (Or.inl ⟨by rfl, ?_⟩) (by assumption) ?_
            rotate_left
            · intro w hSw
              (try dsimp only at hSw)
              go_simp
              (try with_reducible rfl)
            (try simp only [Act.put, List.setIfInBounds_toArray, List.set_cons_zero, List.set_cons_succ])
            refine wpAnyH_take (i := 18) (oi := ⟨some 67, _, _, _, _, _⟩) (v := ?_) rfl (by kernel_rfl) (by kernel_rfl) (by kernel_rfl) (fun _ _ _ h => h) (Or.inl ⟨by rfl, ?_⟩) (by assumption) ?_
            rotate_left
            · intro w hSw
              (try dsimp only at hSw)
              go_simp
              (try with_reducible rfl)
            (try simp only [Act.put, List.setIfInBounds_toArray, List.set_cons_zero, List.set_cons_succ])
            refine wpAnyH_take (i := 19) (oi := ⟨some 68, _, _, _, _, _⟩) (v := ?_) rfl (by kernel_rfl) (by kernel_rfl) (by kernel_rfl) (fun _ _ _ h => h) (Or.inl ⟨by rfl, ?_⟩) (by assumption) ?_
            rotate_left
            · intro w hSw
              (try dsimp only at hSw)
              go_simp
              (try with_reducible rfl)
            (try simp only [Act.put, List.setIfInBounds_toArray, List.set_cons_zero, List.set_cons_succ])
            have hcK := fun (w : World) => run_bytes_of_string (P := Try.prog) w 9 30 5 uk Try.underlying9 Try.underlying30 Try.underlying5
            have hcV := fun (w : World) => run_bytes_of_string (P := Try.prog) w 9 30 5 x.val Try.underlying9 Try.underlying30 Try.underlying5
            clear huk
            clear hHeld
            revert u50 u56 u60 u65 u66 u69 u70
            refine held_all (fun N L t50 t56 t60 t65 t66 t69 t70 W => ∃ c r1 r2, StOk p N L t50 t56 t60 t65 t66 t69 t70 c r1 r2 ∧ BSt w p q x n (bodyB every l k) u7 (starts every l (k + 1)).length (u32s (starts every l (k + 1))) r1 r2 c W) ?_ ?_
            · intro u50 u56 u60 u65 u66 u69 u70; exact ⟨0, none, none, .inl ⟨rfl, rfl, rfl, rfl, rfl⟩, HS.out⟩
            clear HS
            intro N
            induction N with
            | zero =>
              rintro L W t50 t56 t60 t65 t66 t69 t70 ⟨c, r1, r2, hok, HS⟩
              obtain ⟨rfl, rfl⟩ := stok_zero hok
              refine wpAnyH_done (by kernel_rfl) ?_ _
              refine NoPanic.normal ?_
              have HS := Lib.hid HS
              go_wp2_with fail
              go_meet
              exact HS.out.forget
            | succ N ih =>
              have IH := Lib.hid ih
              clear ih
              rintro L W t50 t56 t60 t65 t66 t69 t70 ⟨c, r1, r2, hok, HS0⟩
              have HS := Lib.hid HS0
              clear HS0
              unfold StOk at hok
              rcases hok with ⟨hN, rfl, rfl, rfl, rfl⟩ | ⟨hN, rfl, rfl, rfl, ⟨y2, rfl, rfl⟩⟩ | ⟨hN, rfl, rfl, ⟨y1, rfl, rfl⟩, rfl⟩ | ⟨hN, rfl, rfl, ⟨y1, rfl, rfl⟩, ⟨y2, rfl, rfl⟩⟩ | ⟨hN, rfl, rfl, rfl, rfl, rfl⟩ | ⟨hN, rfl, rfl, rfl, ⟨y2, rfl, rfl⟩, rfl⟩ | ⟨hN, rfl, rfl, ⟨y1, rfl, rfl⟩, rfl, rfl⟩ | ⟨hN, rfl, rfl, ⟨y1, rfl, rfl⟩, ⟨y2, rfl, rfl⟩, rfl⟩ | ⟨hN, rfl, rfl, rfl, rfl, rfl, rfl⟩ | ⟨hN, rfl, rfl, rfl, ⟨y2, rfl, rfl⟩, rfl, rfl⟩ | ⟨hN, rfl, rfl, ⟨y1, rfl, rfl⟩, rfl, rfl, rfl⟩ | ⟨hN, rfl, rfl, ⟨y1, rfl, rfl⟩, ⟨y2, rfl, rfl⟩, rfl, rfl⟩ | ⟨hN, rfl, rfl, rfl, rfl, rfl, rfl, rfl⟩ | ⟨hN, rfl, rfl, rfl, ⟨y2, rfl, rfl⟩, rfl, rfl, rfl⟩ | ⟨hN, rfl, rfl, ⟨y1, rfl, rfl⟩, rfl, rfl, rfl, rfl⟩ | ⟨hN, rfl, rfl, ⟨y1, rfl, rfl⟩, ⟨y2, rfl, rfl⟩, rfl, rfl, rfl⟩ | ⟨hN, rfl, rfl, ⟨y1, rfl, rfl⟩, rfl, rfl, rfl, rfl, rfl⟩ | ⟨hN, rfl, rfl, ⟨y1, rfl, rfl⟩, ⟨y2, rfl, rfl⟩, rfl, rfl, rfl, rfl⟩ | ⟨hN, _⟩
              · -- 0 0 0
                refine wpAnyH_ready (rs := [1, 16, 20]) (by kernel_rfl) (by simp) ?_
                refine AllReadyH.cons (o := ⟨some 50, _, _, _, _, _⟩) rfl (fun K hK => ?_) ?_
                · go_simp
                  (with_reducible refine (Hs1.out _ _ _ HS.out).mono ?_)
                  rintro e w6 ⟨rfl, hs6⟩
                  have HS6 := Lib.hid hs6
                  clear hs6
                  go_wp2_with fail
                  refine hK.out _ _ ?_ (fun _ => ?_)
                  · exact BSt.cells HS6.out
                  exact IH.out _ _ _ _ _ _ _ _ _ ⟨_, _, _, .inr (.inr (.inr (.inr (.inl ⟨by omega, rfl, rfl, rfl, rfl, rfl⟩)))), HS6.out⟩
                refine AllReadyH.cons (o := ⟨some 65, _, _, _, _, _⟩) rfl (fun K hK => ?_) ?_
                · go_simp
                  refine hK.out _ _ ?_ (fun _ => ?_)
                  · exact BSt.cells (HS.out.alloc1 _ Hu.out _ (grownCap_ge _ _ _ _) _ _).drew
                  exact IH.out _ _ _ _ _ _ _ _ _ ⟨_, _, _, .inr (.inr (.inl ⟨by omega, rfl, rfl, ⟨_, rfl, rfl⟩, rfl⟩)), (HS.out.alloc1 _ Hu.out _ (grownCap_ge _ _ _ _) _ _).drew⟩
                refine AllReadyH.cons (o := ⟨some 69, _, _, _, _, _⟩) rfl (fun K hK => ?_) ?_
                · go_simp
                  refine hK.out _ _ ?_ (fun _ => ?_)
                  · exact BSt.cells (HS.out.alloc2 _ (grownCap_ge _ _ _ _) _ _).drew
                  exact IH.out _ _ _ _ _ _ _ _ _ ⟨_, _, _, .inr (.inl ⟨by omega, rfl, rfl, rfl, ⟨_, rfl, rfl⟩⟩), (HS.out.alloc2 _ (grownCap_ge _ _ _ _) _ _).drew⟩
                exact AllReadyH.nil
              · -- 0 0 1
                refine wpAnyH_ready (rs := [1, 16]) (by kernel_rfl) (by simp) ?_
                refine AllReadyH.cons (o := ⟨some 50, _, _, _, _, _⟩) rfl (fun K hK => ?_) ?_
                · go_simp
                  (with_reducible refine (Hs1.out _ _ _ HS.out).mono ?_)
                  rintro e w6 ⟨rfl, hs6⟩
                  have HS6 := Lib.hid hs6
                  clear hs6
                  go_wp2_with fail
                  refine hK.out _ _ ?_ (fun _ => ?_)
                  · exact BSt.cells HS6.out
                  exact IH.out _ _ _ _ _ _ _ _ _ ⟨_, _, _, .inr (.inr (.inr (.inr (.inr (.inl ⟨by omega, rfl, rfl, rfl, ⟨_, rfl, rfl⟩, rfl⟩))))), HS6.out⟩
                refine AllReadyH.cons (o := ⟨some 65, _, _, _, _, _⟩) rfl (fun K hK => ?_) ?_
                · go_simp
                  refine hK.out _ _ ?_ (fun _ => ?_)
                  · exact BSt.cells (HS.out.alloc1 _ Hu.out _ (grownCap_ge _ _ _ _) _ _).drew
                  exact IH.out _ _ _ _ _ _ _ _ _ ⟨_, _, _, .inr (.inr (.inr (.inl ⟨by omega, rfl, rfl, ⟨_, rfl, rfl⟩, ⟨_, rfl, rfl⟩⟩))), (HS.out.alloc1 _ Hu.out _ (grownCap_ge _ _ _ _) _ _).drew⟩
                exact AllReadyH.nil
              · -- 0 1 0
                refine wpAnyH_ready (rs := [1, 20]) (by kernel_rfl) (by simp) ?_
                refine AllReadyH.cons (o := ⟨some 50, _, _, _, _, _⟩) rfl (fun K hK => ?_) ?_
                · go_simp
                  (with_reducible refine (Hs1.out _ _ _ HS.out).mono ?_)
                  rintro e w6 ⟨rfl, hs6⟩
                  have HS6 := Lib.hid hs6
                  clear hs6
                  go_wp2_with fail
                  refine hK.out _ _ ?_ (fun _ => ?_)
                  · exact BSt.cells HS6.out
                  exact IH.out _ _ _ _ _ _ _ _ _ ⟨_, _, _, .inr (.inr (.inr (.inr (.inr (.inr (.inl ⟨by omega, rfl, rfl, ⟨_, rfl, rfl⟩, rfl, rfl⟩)))))), HS6.out⟩
                refine AllReadyH.cons (o := ⟨some 69, _, _, _, _, _⟩) rfl (fun K hK => ?_) ?_
                · go_simp
                  refine hK.out _ _ ?_ (fun _ => ?_)
                  · exact BSt.cells (HS.out.alloc2 _ (grownCap_ge _ _ _ _) _ _).drew
                  exact IH.out _ _ _ _ _ _ _ _ _ ⟨_, _, _, .inr (.inr (.inr (.inl ⟨by omega, rfl, rfl, ⟨_, rfl, rfl⟩, ⟨_, rfl, rfl⟩⟩))), (HS.out.alloc2 _ (grownCap_ge _ _ _ _) _ _).drew⟩
                exact AllReadyH.nil
              · -- 0 1 1
                refine wpAnyH_ready (rs := [1]) (by kernel_rfl) (by simp) ?_
                refine AllReadyH.cons (o := ⟨some 50, _, _, _, _, _⟩) rfl (fun K hK => ?_) ?_
                · go_simp
                  (with_reducible refine (Hs1.out _ _ _ HS.out).mono ?_)
                  rintro e w6 ⟨rfl, hs6⟩
                  have HS6 := Lib.hid hs6
                  clear hs6
                  go_wp2_with fail
                  refine hK.out _ _ ?_ (fun _ => ?_)
                  · exact BSt.cells HS6.out
                  exact IH.out _ _ _ _ _ _ _ _ _ ⟨_, _, _, .inr (.inr (.inr (.inr (.inr (.inr (.inr (.inl ⟨by omega, rfl, rfl, ⟨_, rfl, rfl⟩, ⟨_, rfl, rfl⟩, rfl⟩))))))), HS6.out⟩
                exact AllReadyH.nil
              · -- 1 0 0
                refine wpAnyH_ready (rs := [7, 16, 20]) (by kernel_rfl) (by simp) ?_
                refine AllReadyH.cons (o := ⟨some 56, _, _, _, _, _⟩) rfl (fun K hK => ?_) ?_
                · go_simp
                  (with_reducible refine (Hs2.out _ _ _ HS.out).mono ?_)
                  rintro e w6 ⟨rfl, hs6⟩
                  have HS6 := Lib.hid hs6
                  clear hs6
                  go_wp2_with fail
                  refine hK.out _ _ ?_ (fun _ => ?_)
                  · exact BSt.cells HS6.out
                  exact IH.out _ _ _ _ _ _ _ _ _ ⟨_, _, _, .inr (.inr (.inr (.inr (.inr (.inr (.inr (.inr (.inl ⟨by omega, rfl, rfl, rfl, rfl, rfl, rfl⟩)))))))), HS6.out⟩
                refine AllReadyH.cons (o := ⟨some 65, _, _, _, _, _⟩) rfl (fun K hK => ?_) ?_
                · go_simp
                  refine hK.out _ _ ?_ (fun _ => ?_)
                  · exact BSt.cells (HS.out.alloc1 _ Hu.out _ (grownCap_ge _ _ _ _) _ _).drew
                  exact IH.out _ _ _ _ _ _ _ _ _ ⟨_, _, _, .inr (.inr (.inr (.inr (.inr (.inr (.inl ⟨by omega, rfl, rfl, ⟨_, rfl, rfl⟩, rfl, rfl⟩)))))), (HS.out.alloc1 _ Hu.out _ (grownCap_ge _ _ _ _) _ _).drew⟩
                refine AllReadyH.cons (o := ⟨some 69, _, _, _, _, _⟩) rfl (fun K hK => ?_) ?_
                · go_simp
                  refine hK.out _ _ ?_ (fun _ => ?_)
                  · exact BSt.cells (HS.out.alloc2 _ (grownCap_ge _ _ _ _) _ _).drew
                  exact IH.out _ _ _ _ _ _ _ _ _ ⟨_, _, _, .inr (.inr (.inr (.inr (.inr (.inl ⟨by omega, rfl, rfl, rfl, ⟨_, rfl, rfl⟩, rfl⟩))))), (HS.out.alloc2 _ (grownCap_ge _ _ _ _) _ _).drew⟩
                exact AllReadyH.nil
              · -- 1 0 1
                refine wpAnyH_ready (rs := [7, 16]) (by kernel_rfl) (by simp) ?_
                refine AllReadyH.cons (o := ⟨some 56, _, _, _, _, _⟩) rfl (fun K hK => ?_) ?_
                · go_simp
                  (with_reducible refine (Hs2.out _ _ _ HS.out).mono ?_)
                  rintro e w6 ⟨rfl, hs6⟩
                  have HS6 := Lib.hid hs6
                  clear hs6
                  go_wp2_with fail
                  refine hK.out _ _ ?_ (fun _ => ?_)
                  · exact BSt.cells HS6.out
                  exact IH.out _ _ _ _ _ _ _ _ _ ⟨_, _, _, .inr (.inr (.inr (.inr (.inr (.inr (.inr (.inr (.inr (.inl ⟨by omega, rfl, rfl, rfl, ⟨_, rfl, rfl⟩, rfl, rfl⟩))))))))), HS6.out⟩
                refine AllReadyH.cons (o := ⟨some 65, _, _, _, _, _⟩) rfl (fun K hK => ?_) ?_
                · go_simp
                  refine hK.out _ _ ?_ (fun _ => ?_)
                  · exact BSt.cells (HS.out.alloc1 _ Hu.out _ (grownCap_ge _ _ _ _) _ _).drew
                  exact IH.out _ _ _ _ _ _ _ _ _ ⟨_, _, _, .inr (.inr (.inr (.inr (.inr (.inr (.inr (.inl ⟨by omega, rfl, rfl, ⟨_, rfl, rfl⟩, ⟨_, rfl, rfl⟩, rfl⟩))))))), (HS.out.alloc1 _ Hu.out _ (grownCap_ge _ _ _ _) _ _).drew⟩
                exact AllReadyH.nil
              · -- 1 1 0
                refine wpAnyH_ready (rs := [7, 20]) (by kernel_rfl) (by simp) ?_
                refine AllReadyH.cons (o := ⟨some 56, _, _, _, _, _⟩) rfl (fun K hK => ?_) ?_
                · go_simp
                  (with_reducible refine (Hs2.out _ _ _ HS.out).mono ?_)
                  rintro e w6 ⟨rfl, hs6⟩
                  have HS6 := Lib.hid hs6
                  clear hs6
                  go_wp2_with fail
                  refine hK.out _ _ ?_ (fun _ => ?_)
                  · exact BSt.cells HS6.out
                  exact IH.out _ _ _ _ _ _ _ _ _ ⟨_, _, _, .inr (.inr (.inr (.inr (.inr (.inr (.inr (.inr (.inr (.inr (.inl ⟨by omega, rfl, rfl, ⟨_, rfl, rfl⟩, rfl, rfl, rfl⟩)))))))))), HS6.out⟩
                refine AllReadyH.cons (o := ⟨some 69, _, _, _, _, _⟩) rfl (fun K hK => ?_) ?_
                · go_simp
                  refine hK.out _ _ ?_ (fun _ => ?_)
                  · exact BSt.cells (HS.out.alloc2 _ (grownCap_ge _ _ _ _) _ _).drew
                  exact IH.out _ _ _ _ _ _ _ _ _ ⟨_, _, _, .inr (.inr (.inr (.inr (.inr (.inr (.inr (.inl ⟨by omega, rfl, rfl, ⟨_, rfl, rfl⟩, ⟨_, rfl, rfl⟩, rfl⟩))))))), (HS.out.alloc2 _ (grownCap_ge _ _ _ _) _ _).drew⟩
                exact AllReadyH.nil
              · -- 1 1 1
                refine wpAnyH_ready (rs := [7]) (by kernel_rfl) (by simp) ?_
                refine AllReadyH.cons (o := ⟨some 56, _, _, _, _, _⟩) rfl (fun K hK => ?_) ?_
                · go_simp
                  (with_reducible refine (Hs2.out _ _ _ HS.out).mono ?_)
                  rintro e w6 ⟨rfl, hs6⟩
                  have HS6 := Lib.hid hs6
                  clear hs6
                  go_wp2_with fail
                  refine hK.out _ _ ?_ (fun _ => ?_)
                  · exact BSt.cells HS6.out
                  exact IH.out _ _ _ _ _ _ _ _ _ ⟨_, _, _, .inr (.inr (.inr (.inr (.inr (.inr (.inr (.inr (.inr (.inr (.inr (.inl ⟨by omega, rfl, rfl, ⟨_, rfl, rfl⟩, ⟨_, rfl, rfl⟩, rfl, rfl⟩))))))))))), HS6.out⟩
                exact AllReadyH.nil
              · -- 2 0 0
                refine wpAnyH_ready (rs := [11, 16, 20]) (by kernel_rfl) (by simp) ?_
                refine AllReadyH.cons (o := ⟨some 60, _, _, _, _, _⟩) rfl (fun K hK => ?_) ?_
                · go_simp
                  (with_reducible refine (Hs3.out _ _ _ HS.out).mono ?_)
                  rintro e w6 ⟨rfl, hs6⟩
                  have HS6 := Lib.hid hs6
                  clear hs6
                  go_wp2_with fail
                  refine hK.out _ _ ?_ (fun _ => ?_)
                  · exact BSt.cells HS6.out
                  exact IH.out _ _ _ _ _ _ _ _ _ ⟨_, _, _, .inr (.inr (.inr (.inr (.inr (.inr (.inr (.inr (.inr (.inr (.inr (.inr (.inl ⟨by omega, rfl, rfl, rfl, rfl, rfl, rfl, rfl⟩)))))))))))), HS6.out⟩
                refine AllReadyH.cons (o := ⟨some 65, _, _, _, _, _⟩) rfl (fun K hK => ?_) ?_
                · go_simp
                  refine hK.out _ _ ?_ (fun _ => ?_)
                  · exact BSt.cells (HS.out.alloc1 _ Hu.out _ (grownCap_ge _ _ _ _) _ _).drew
                  exact IH.out _ _ _ _ _ _ _ _ _ ⟨_, _, _, .inr (.inr (.inr (.inr (.inr (.inr (.inr (.inr (.inr (.inr (.inl ⟨by omega, rfl, rfl, ⟨_, rfl, rfl⟩, rfl, rfl, rfl⟩)))))))))), (HS.out.alloc1 _ Hu.out _ (grownCap_ge _ _ _ _) _ _).drew⟩
                refine AllReadyH.cons (o := ⟨some 69, _, _, _, _, _⟩) rfl (fun K hK => ?_) ?_
                · go_simp
                  refine hK.out _ _ ?_ (fun _ => ?_)
                  · exact BSt.cells (HS.out.alloc2 _ (grownCap_ge _ _ _ _) _ _).drew
                  exact IH.out _ _ _ _ _ _ _ _ _ ⟨_, _, _, .inr (.inr (.inr (.inr (.inr (.inr (.inr (.inr (.inr (.inl ⟨by omega, rfl, rfl, rfl, ⟨_, rfl, rfl⟩, rfl, rfl⟩))))))))), (HS.out.alloc2 _ (grownCap_ge _ _ _ _) _ _).drew⟩
                exact AllReadyH.nil
              · -- 2 0 1
                refine wpAnyH_ready (rs := [11, 16]) (by kernel_rfl) (by simp) ?_
                refine AllReadyH.cons (o := ⟨some 60, _, _, _, _, _⟩) rfl (fun K hK => ?_) ?_
                · go_simp
                  (with_reducible refine (Hs3.out _ _ _ HS.out).mono ?_)
                  rintro e w6 ⟨rfl, hs6⟩
                  have HS6 := Lib.hid hs6
                  clear hs6
                  go_wp2_with fail
                  refine hK.out _ _ ?_ (fun _ => ?_)
                  · exact BSt.cells HS6.out
                  exact IH.out _ _ _ _ _ _ _ _ _ ⟨_, _, _, .inr (.inr (.inr (.inr (.inr (.inr (.inr (.inr (.inr (.inr (.inr (.inr (.inr (.inl ⟨by omega, rfl, rfl, rfl, ⟨_, rfl, rfl⟩, rfl, rfl, rfl⟩))))))))))))), HS6.out⟩
                refine AllReadyH.cons (o := ⟨some 65, _, _, _, _, _⟩) rfl (fun K hK => ?_) ?_
                · go_simp
                  refine hK.out _ _ ?_ (fun _ => ?_)
                  · exact BSt.cells (HS.out.alloc1 _ Hu.out _ (grownCap_ge _ _ _ _) _ _).drew
                  exact IH.out _ _ _ _ _ _ _ _ _ ⟨_, _, _, .inr (.inr (.inr (.inr (.inr (.inr (.inr (.inr (.inr (.inr (.inr (.inl ⟨by omega, rfl, rfl, ⟨_, rfl, rfl⟩, ⟨_, rfl, rfl⟩, rfl, rfl⟩))))))))))), (HS.out.alloc1 _ Hu.out _ (grownCap_ge _ _ _ _) _ _).drew⟩
                exact AllReadyH.nil
              · -- 2 1 0
                refine wpAnyH_ready (rs := [11, 20]) (by kernel_rfl) (by simp) ?_
                refine AllReadyH.cons (o := ⟨some 60, _, _, _, _, _⟩) rfl (fun K hK => ?_) ?_
                · go_simp
                  (with_reducible refine (Hs3.out _ _ _ HS.out).mono ?_)
                  rintro e w6 ⟨rfl, hs6⟩
                  have HS6 := Lib.hid hs6
                  clear hs6
                  go_wp2_with fail
                  refine hK.out _ _ ?_ (fun _ => ?_)
                  · exact BSt.cells HS6.out
                  exact IH.out _ _ _ _ _ _ _ _ _ ⟨_, _, _, .inr (.inr (.inr (.inr (.inr (.inr (.inr (.inr (.inr (.inr (.inr (.inr (.inr (.inr (.inl ⟨by omega, rfl, rfl, ⟨_, rfl, rfl⟩, rfl, rfl, rfl, rfl⟩)))))))))))))), HS6.out⟩
                refine AllReadyH.cons (o := ⟨some 69, _, _, _, _, _⟩) rfl (fun K hK => ?_) ?_
                · go_simp
                  refine hK.out _ _ ?_ (fun _ => ?_)
                  · exact BSt.cells (HS.out.alloc2 _ (grownCap_ge _ _ _ _) _ _).drew
                  exact IH.out _ _ _ _ _ _ _ _ _ ⟨_, _, _, .inr (.inr (.inr (.inr (.inr (.inr (.inr (.inr (.inr (.inr (.inr (.inl ⟨by omega, rfl, rfl, ⟨_, rfl, rfl⟩, ⟨_, rfl, rfl⟩, rfl, rfl⟩))))))))))), (HS.out.alloc2 _ (grownCap_ge _ _ _ _) _ _).drew⟩
                exact AllReadyH.nil
              · -- 2 1 1
                refine wpAnyH_ready (rs := [11]) (by kernel_rfl) (by simp) ?_
                refine AllReadyH.cons (o := ⟨some 60, _, _, _, _, _⟩) rfl (fun K hK => ?_) ?_
                · go_simp
                  (with_reducible refine (Hs3.out _ _ _ HS.out).mono ?_)
                  rintro e w6 ⟨rfl, hs6⟩
                  have HS6 := Lib.hid hs6
                  clear hs6
                  go_wp2_with fail
                  refine hK.out _ _ ?_ (fun _ => ?_)
                  · exact BSt.cells HS6.out
                  exact IH.out _ _ _ _ _ _ _ _ _ ⟨_, _, _, .inr (.inr (.inr (.inr (.inr (.inr (.inr (.inr (.inr (.inr (.inr (.inr (.inr (.inr (.inr (.inl ⟨by omega, rfl, rfl, ⟨_, rfl, rfl⟩, ⟨_, rfl, rfl⟩, rfl, rfl, rfl⟩))))))))))))))), HS6.out⟩
                exact AllReadyH.nil
              · -- 3 0 0
                refine wpAnyH_ready (rs := [16, 20]) (by kernel_rfl) (by simp) ?_
                refine AllReadyH.cons (o := ⟨some 65, _, _, _, _, _⟩) rfl (fun K hK => ?_) ?_
                · go_simp
                  refine hK.out _ _ ?_ (fun _ => ?_)
                  · exact BSt.cells (HS.out.alloc1 _ Hu.out _ (grownCap_ge _ _ _ _) _ _).drew
                  exact IH.out _ _ _ _ _ _ _ _ _ ⟨_, _, _, .inr (.inr (.inr (.inr (.inr (.inr (.inr (.inr (.inr (.inr (.inr (.inr (.inr (.inr (.inl ⟨by omega, rfl, rfl, ⟨_, rfl, rfl⟩, rfl, rfl, rfl, rfl⟩)))))))))))))), (HS.out.alloc1 _ Hu.out _ (grownCap_ge _ _ _ _) _ _).drew⟩
                refine AllReadyH.cons (o := ⟨some 69, _, _, _, _, _⟩) rfl (fun K hK => ?_) ?_
                · go_simp
                  refine hK.out _ _ ?_ (fun _ => ?_)
                  · exact BSt.cells (HS.out.alloc2 _ (grownCap_ge _ _ _ _) _ _).drew
                  exact IH.out _ _ _ _ _ _ _ _ _ ⟨_, _, _, .inr (.inr (.inr (.inr (.inr (.inr (.inr (.inr (.inr (.inr (.inr (.inr (.inr (.inl ⟨by omega, rfl, rfl, rfl, ⟨_, rfl, rfl⟩, rfl, rfl, rfl⟩))))))))))))), (HS.out.alloc2 _ (grownCap_ge _ _ _ _) _ _).drew⟩
                exact AllReadyH.nil
              · -- 3 0 1
                refine wpAnyH_ready (rs := [16]) (by kernel_rfl) (by simp) ?_
                refine AllReadyH.cons (o := ⟨some 65, _, _, _, _, _⟩) rfl (fun K hK => ?_) ?_
                · go_simp
                  refine hK.out _ _ ?_ (fun _ => ?_)
                  · exact BSt.cells (HS.out.alloc1 _ Hu.out _ (grownCap_ge _ _ _ _) _ _).drew
                  exact IH.out _ _ _ _ _ _ _ _ _ ⟨_, _, _, .inr (.inr (.inr (.inr (.inr (.inr (.inr (.inr (.inr (.inr (.inr (.inr (.inr (.inr (.inr (.inl ⟨by omega, rfl, rfl, ⟨_, rfl, rfl⟩, ⟨_, rfl, rfl⟩, rfl, rfl, rfl⟩))))))))))))))), (HS.out.alloc1 _ Hu.out _ (grownCap_ge _ _ _ _) _ _).drew⟩
                exact AllReadyH.nil
              · -- 3 1 0
                refine wpAnyH_ready (rs := [17, 20]) (by kernel_rfl) (by simp) ?_
                refine AllReadyH.cons (o := ⟨some 66, _, _, _, _, _⟩) rfl (fun K hK => ?_) ?_
                · go_simp
                  (with_reducible refine (Hs4.out _ _ _ HS.out).mono ?_)
                  rintro e w6 ⟨rfl, hs6⟩
                  have HS6 := Lib.hid hs6
                  clear hs6
                  go_wp2_with fail
                  refine hK.out _ _ ?_ (fun _ => ?_)
                  · exact BSt.cells HS6.out
                  exact IH.out _ _ _ _ _ _ _ _ _ ⟨_, _, _, .inr (.inr (.inr (.inr (.inr (.inr (.inr (.inr (.inr (.inr (.inr (.inr (.inr (.inr (.inr (.inr (.inl ⟨by omega, rfl, rfl, ⟨_, rfl, rfl⟩, rfl, rfl, rfl, rfl, rfl⟩)))))))))))))))), HS6.out⟩
                refine AllReadyH.cons (o := ⟨some 69, _, _, _, _, _⟩) rfl (fun K hK => ?_) ?_
                · go_simp
                  refine hK.out _ _ ?_ (fun _ => ?_)
                  · exact BSt.cells (HS.out.alloc2 _ (grownCap_ge _ _ _ _) _ _).drew
                  exact IH.out _ _ _ _ _ _ _ _ _ ⟨_, _, _, .inr (.inr (.inr (.inr (.inr (.inr (.inr (.inr (.inr (.inr (.inr (.inr (.inr (.inr (.inr (.inl ⟨by omega, rfl, rfl, ⟨_, rfl, rfl⟩, ⟨_, rfl, rfl⟩, rfl, rfl, rfl⟩))))))))))))))), (HS.out.alloc2 _ (grownCap_ge _ _ _ _) _ _).drew⟩
                exact AllReadyH.nil
              · -- 3 1 1
                refine wpAnyH_ready (rs := [17]) (by kernel_rfl) (by simp) ?_
                refine AllReadyH.cons (o := ⟨some 66, _, _, _, _, _⟩) rfl (fun K hK => ?_) ?_
                · go_simp
                  (with_reducible refine (Hs4.out _ _ _ HS.out).mono ?_)
                  rintro e w6 ⟨rfl, hs6⟩
                  have HS6 := Lib.hid hs6
                  clear hs6
                  go_wp2_with fail
                  refine hK.out _ _ ?_ (fun _ => ?_)
                  · exact BSt.cells HS6.out
                  exact IH.out _ _ _ _ _ _ _ _ _ ⟨_, _, _, .inr (.inr (.inr (.inr (.inr (.inr (.inr (.inr (.inr (.inr (.inr (.inr (.inr (.inr (.inr (.inr (.inr (.inl ⟨by omega, rfl, rfl, ⟨_, rfl, rfl⟩, ⟨_, rfl, rfl⟩, rfl, rfl, rfl, rfl⟩))))))))))))))))), HS6.out⟩
                exact AllReadyH.nil
              · -- 4 1 0
                refine wpAnyH_ready (rs := [20]) (by kernel_rfl) (by simp) ?_
                refine AllReadyH.cons (o := ⟨some 69, _, _, _, _, _⟩) rfl (fun K hK => ?_) ?_
                · go_simp
                  refine hK.out _ _ ?_ (fun _ => ?_)
                  · exact BSt.cells (HS.out.alloc2 _ (grownCap_ge _ _ _ _) _ _).drew
                  exact IH.out _ _ _ _ _ _ _ _ _ ⟨_, _, _, .inr (.inr (.inr (.inr (.inr (.inr (.inr (.inr (.inr (.inr (.inr (.inr (.inr (.inr (.inr (.inr (.inr (.inl ⟨by omega, rfl, rfl, ⟨_, rfl, rfl⟩, ⟨_, rfl, rfl⟩, rfl, rfl, rfl, rfl⟩))))))))))))))))), (HS.out.alloc2 _ (grownCap_ge _ _ _ _) _ _).drew⟩
                exact AllReadyH.nil
              · -- 4 1 1
                refine wpAnyH_ready (rs := [21]) (by kernel_rfl) (by simp) ?_
                refine AllReadyH.cons (o := ⟨some 70, _, _, _, _, _⟩) rfl (fun K hK => ?_) ?_
                · go_simp
                  (with_reducible refine (Hs5.out _ _ _ HS.out).mono ?_)
                  rintro e w6 ⟨rfl, hs6⟩
                  have HS6 := Lib.hid hs6
                  clear hs6
                  go_wp2_with fail
                  refine hK.out _ _ ?_ (fun _ => ?_)
                  · exact BSt.cells HS6.out
                  exact IH.out _ _ _ _ _ _ _ _ _ ⟨_, _, _, .inr (.inr (.inr (.inr (.inr (.inr (.inr (.inr (.inr (.inr (.inr (.inr (.inr (.inr (.inr (.inr (.inr (.inr (⟨by omega, rfl, rfl, ⟨_, rfl, rfl⟩, ⟨_, rfl, rfl⟩, rfl, rfl, rfl, rfl⟩)))))))))))))))))), HS6.out⟩
                exact AllReadyH.nil
              · exact absurd hN (by omega)
          case rest =>
            obtain ⟨r1, r2, v9, hw9, hb9, hfp9, hs9, _, _, B9, _⟩ := hcut
            rw [pcs_five, ← Hbs.out] at hw9
            have HW9 := Lib.hid hw9
            have HS9 := Lib.hid hs9
            obtain ⟨c0, c1, _⟩ := cell_two hb9
            have hsz := fun N (hN : N < 9223372036854775808) W => size_any N W hN
            have q1 := num_len9 (n := n) (by omega)
            have q2 := num_len9 (n := x.key.size - n) (by omega)
            have q3 := num_len9 (n := x.val.size) (by omega)
            have Hz1 : Hid (∀ W : World, Calls Try.prog 29 #[.int .i64 n] W fun e w' => e = .returned (.int .i64 (num n).length) ∧ w' = W) := Lib.hid fun W => (size_any n W (by omega)).mono fun e w' h => ⟨h.1, h.2.symm⟩
            have Hz2 : Hid (∀ W : World, Calls Try.prog 29 #[.int .i64 ((x.key.size : Int) - (n : Int))] W fun e w' => e = .returned (.int .i64 (num (x.key.size - n)).length) ∧ w' = W) := Lib.hid fun W => by
              have h := (size_any (x.key.size - n) W (by omega)).mono (fun e w' h => (⟨h.1, h.2.symm⟩ : _ ∧ w' = W))
              rw [show ((x.key.size - n : Nat) : Int) = (x.key.size : Int) - (n : Int) by omega] at h
              exact h
            have Hz4 : Hid (∀ W : World, Calls Try.prog 29 #[.int .i64 x.val.size] W fun e w' => e = .returned (.int .i64 (num x.val.size).length) ∧ w' = W) := Lib.hid fun W => (size_any x.val.size W (by omega)).mono fun e w' h => ⟨h.1, h.2.symm⟩
            have Hle : Hid ((bodyB every l (k + 1)).length = (bodyB every l k).length + ((num n).length + (num (x.key.size - n)).length + (num x.val.size).length + (x.key.size - n) + x.val.size)) := Lib.hid (by rw [Hbs.out, List.length_append, Hxs.out])
            generalize (num n).length = s1 at *
            generalize (num (x.key.size - n)).length = s2 at *
            generalize (num x.val.size).length = s3 at *
            generalize hzz : (bodyB every l k).length = z at *
            have hzb : z < 4294967296 := by omega
            have w1 : IntKind.i64.wrap ((s1 : Int) + (s2 : Int)) = (s1 : Int) + (s2 : Int) := IntWalk.i64_in _ (by omega)
            have w2 : IntKind.i64.wrap ((s1 : Int) + (s2 : Int) + (s3 : Int)) = (s1 : Int) + (s2 : Int) + (s3 : Int) := IntWalk.i64_in _ (by omega)
            have w3 : IntKind.i64.wrap ((s1 : Int) + (s2 : Int) + (s3 : Int) + (x.key.size : Int)) = (s1 : Int) + (s2 : Int) + (s3 : Int) + (x.key.size : Int) := IntWalk.i64_in _ (by omega)
            have w4 : IntKind.i64.wrap ((s1 : Int) + (s2 : Int) + (s3 : Int) + (x.key.size : Int) - (n : Int)) = (s1 : Int) + (s2 : Int) + (s3 : Int) + (x.key.size : Int) - (n : Int) := IntWalk.i64_in _ (by omega)
            have w5 : IntKind.i64.wrap ((s1 : Int) + (s2 : Int) + (s3 : Int) + (x.key.size : Int) - (n : Int) + (x.val.size : Int)) = (s1 : Int) + (s2 : Int) + (s3 : Int) + (x.key.size : Int) - (n : Int) + (x.val.size : Int) := IntWalk.i64_in _ (by omega)
            have w6 : IntKind.i64.wrap ((z : Int) + ((s1 : Int) + (s2 : Int) + (s3 : Int) + (x.key.size : Int) - (n : Int) + (x.val.size : Int))) = (z : Int) + ((s1 : Int) + (s2 : Int) + (s3 : Int) + (x.key.size : Int) - (n : Int) + (x.val.size : Int)) := IntWalk.i64_in _ (by omega)
            clear hw9 hs9 hb9 hsz Hs1 Hs2 Hs3 Hs4 Hs5
            go_upto_region 16 with (fail)
            go_quiet ((first
              | (go_at_call 29; (with_reducible refine Calls.quiet_of_same (Hz1.out _)))
              | (go_at_call 29; (with_reducible refine Calls.quiet_of_same (Hz2.out _)))
              | (go_at_call 29; (with_reducible refine Calls.quiet_of_same (Hz4.out _)))))
            clear w1 w2 w3 w4 w5 w6
            go_wp2
            go_roundw
            case rel => exact ⟨k + 1, v9, by omega, by go_num, by have := Hle.out; go_num, by rw [Hln.out], HW9.out, HS9.out, Hri2.out, below_drewN B9 _⟩
            case measure => simp [intOf]; omega
end Go.Proofs.Ytebnllpcagkkbaa
