/- Put of a new key: what holds while its levels are laid. -/
import Derived.Test.YthpafhimmhacfaaSkP7
namespace Go.Proofs.Ythpafhimmhacfaa
open Go.RowKit
set_option linter.unusedVariables false
set_option linter.unusedSimpArgs false
section
variable {κ : Type}
theorem SKJ.chg {NT LT : TypeId} {ek : κ → Value} {w w' : World} {B p : Nat} {v : Value} {T : List (SE κ)} {c : Nat} {n : SE κ} {j : Nat} {F : Nat → Prop} (h : SKJ NT LT ek w B p v T c n j) (hc : Chg F w w') (hF : ∀ k, Fp p v T k → ¬ F k) : SKJ NT LT ek w' B p v T c n j := by
  obtain ⟨xs, hr, hx⟩ := h.row
  refine ⟨(hc.block p (blk_lt h.box) (hF _ (.inl rfl))).trans h.box, ⟨xs, row_same hr fun k hk => hc.block k (World.ownsRow.lt hr k hk).2 (hF _ (.inr (.inl hk))), hx⟩, fun i hi => ?_⟩
  refine row_same (h.next i hi) fun k hk => hc.block k (World.ownsRow.lt (h.next i hi) k hk).2 (hF _ (.inr (.inr ⟨T[i], List.getElem_mem hi, ?_⟩)))
  simpa [Value.ownBlock] using hk
/-- the new node's own next row when the levels below j are done -/
def ownJ (T : List (SE κ)) (c ht j : Nat) : List Value := (nxs (T.drop c) ht).take j ++ List.replicate (ht - j) (.int .i64 0)
theorem ownJ_zero (T : List (SE κ)) (c ht : Nat) : ownJ T c ht 0 = List.replicate ht (.int .i64 0) := by simp [ownJ]
theorem ownJ_end (T : List (SE κ)) (c ht : Nat) : ownJ T c ht ht = nxs (T.drop c) ht := by
  unfold ownJ
  rw [List.take_of_length_le (by rw [nxs_len]; omega), show ht - ht = 0 by omega]; simp
theorem ownJ_step (T : List (SE κ)) (c ht j : Nat) (hj : j < ht) : (ownJ T c ht j).set j (.int .i64 (fid (T.drop c) j : Nat)) = ownJ T c ht (j + 1) := by
  unfold ownJ
  have hl : ((nxs (T.drop c) ht).take j).length = j := by rw [List.length_take, nxs_len]; omega
  rw [List.set_append, if_neg (by omega), hl, Nat.sub_self, show ht - j = (ht - (j + 1)) + 1 by omega, List.replicate_succ, List.set_cons_zero, List.take_add_one, List.append_assoc]
  congr 1
  rw [show (nxs (T.drop c) ht)[j]? = some (.int .i64 (fid (T.drop c) j : Nat)) by simp [nxs, hj]]
  rfl
structure PJ (NT LT : TypeId) (ek : κ → Value) (w0 w : World) (B p : Nat) (v : Value) (T : List (SE κ)) (c : Nat) (n : SE κ) (q j : Nat) : Prop where
  skj : SKJ NT LT ek w B p v T c n j
  own : w.ownsRow B 3 1 (.slice (some ⟨n.blk, 0, none⟩) n.ht n.ht) n.ht (ownJ T c n.ht j)
  xb : w.heap[q]? = some (.cells #[ek n.key, n.val, .slice (some ⟨n.blk, 0, none⟩) n.ht n.ht] NT (0, 0))
  chg : Chg (Fp p v T) w0 w
/-- what is read at one level -/
theorem PJ.cells {lt : κ → κ → Bool} {k : κ} {NT LT : TypeId} {ek : κ → Value} {w0 w : World} {B p : Nat} {v : Value} {T : List (SE κ)} {c : Nat} {n : SE κ} {q j i : Nat} (h : PJ NT LT ek w0 w B p v T c n q j) (hc : CutAt lt T k c) (hj : j < n.ht) (hi : i < T.length) (hidl : T[i].id < T.length) (hp : PredAt' lt T k j i) :
    ∃ g cv, v = .slice (some ⟨g, 0, none⟩) T.length cv ∧ T.length ≤ cv ∧ cv ≤ maxLen ∧ w.cell? ⟨p, 0, none⟩ = some (.slice (some ⟨g, 0, none⟩) T.length cv) ∧ w.cell? ⟨g, T[i].id * 3 + 2, none⟩ = some (.slice (some ⟨T[i].blk, 0, none⟩) T[i].ht T[i].ht) ∧
      w.cell? ⟨T[i].blk, j, none⟩ = some (.int .i64 (fid (T.drop c) j : Nat)) ∧ w.frozen? ⟨T[i].blk, j, none⟩ = false ∧ w.cell? ⟨n.blk, j, none⟩ = some (.int .i64 0) ∧ w.frozen? ⟨n.blk, j, none⟩ = false ∧
      w.cell? ⟨q, 2, none⟩ = some (.slice (some ⟨n.blk, 0, none⟩) n.ht n.ht) ∧ j < T[i].ht := by
  obtain ⟨_, hij, hib, hia⟩ := hp
  obtain ⟨c1, c2, c3, c4⟩ := hc
  have hic : i < c := by
    rcases Nat.lt_or_ge i c with h1 | h1
    · exact h1
    · rcases hib with h2 | h2
      · omega
      · rw [c4 i hi h1] at h2; cases h2
  have hmid : ∀ x (hx : x < T.length), i < x → x < c → T[x].ht ≤ j := fun x hx h1 h2 => by
    rcases Nat.lt_or_ge j T[x].ht with h3 | h3
    · have := hia x hx h1 h3
      rw [c3 x hx (by omega) h2] at this; cases this
    · exact h3
  obtain ⟨e1, _⟩ := ins_none (n := n) (h := j) hic c2 hmid
  obtain ⟨xs, hr, hx⟩ := h.skj.row
  obtain ⟨ao, cv, rfl, h1, h2, h3⟩ := row_shape hr
  obtain ⟨g, rfl, _, _⟩ := h3 (by omega)
  obtain ⟨_, _, x2⟩ := hx _ (List.getElem_mem hi)
  have hnx := h.skj.next i hi
  refine ⟨g, cv, rfl, h1, h2, (cell_one h.skj.box).1, ?_, ?_, World.ownsRow.frozenAt hnx _, ?_, World.ownsRow.frozenAt h.own _, ?_, hij⟩
  · have := World.ownsRow.cells hr (g := g) rfl _ _ x2
    rw [add_none, Nat.zero_add, Nat.mul_comm 3] at this; exact this
  · rw [World.ownsRow.cellAt hnx j (by omega), nxJ_at T c n j i _ j hij, if_neg (by omega), e1]
  · rw [World.ownsRow.cellAt h.own j (by omega)]
    unfold ownJ
    have hl : ((nxs (T.drop c) n.ht).take j).length = j := by rw [List.length_take, nxs_len]; omega
    rw [List.getElem?_append_right (by omega), hl, Nat.sub_self, List.getElem?_replicate_of_lt (by omega)]
  · rw [cell_of_row _ _ _ _ _ _ h.xb]; rfl
theorem PJ.drew {NT LT : TypeId} {ek : κ → Value} {w0 w : World} {B p : Nat} {v : Value} {T : List (SE κ)} {c : Nat} {n : SE κ} {q j : Nat} (h : PJ NT LT ek w0 w B p v T c n q j) : PJ NT LT ek w0 w.drew B p v T c n q j :=
  have hb : Below w.heap.size w w.drew := (Below.refl _ _).drew
  ⟨h.skj.below hb, row_past h.own hb (Nat.le_refl _), (hb.block q (blk_lt h.xb)).trans h.xb, h.chg.trans2 (Chg.of_below (F := fun _ => False) hb) (fun _ _ h => h.elim)⟩
/-- one level -/
theorem PJ.step {lt : κ → κ → Bool} {k : κ} {NT LT : TypeId} {ek : κ → Value} {w0 w : World} {B p : Nat} {v : Value} {T : List (SE κ)} {c : Nat} {n : SE κ} {q j i : Nat} (h : PJ NT LT ek w0 w B p v T c n q j)
    (hN : NT ≠ 3) (hL : LT ≠ 3) (hap : ∀ i j (hi : i < T.length) (hj : j < T.length), T[i].blk = T[j].blk → i = j) (hc : CutAt lt T k c) (hj : j < n.ht) (hi : i < T.length) (hp : PredAt' lt T k j i)
    (hfp : ∀ x, Fp p v T x → x < w0.heap.size) (hnb : w0.heap.size ≤ n.blk) (hq : w0.heap.size ≤ q) (hqn : q ≠ n.blk) :
    PJ NT LT ek w0 ((w.setCell ⟨n.blk, j, none⟩ (.int .i64 (fid (T.drop c) j : Nat))).setCell ⟨T[i].blk, j, none⟩ (.int .i64 (n.id : Nat))) B p v T c n q (j + 1) := by
  have hs1 := Chg.set w n.blk j (.int .i64 (fid (T.drop c) j : Nat))
  have hF : ∀ x, Fp p v T x → ¬ x = n.blk := fun x hx e => by have := hfp x hx; omega
  have k1 := h.skj.chg hs1 hF
  have hs2 := Chg.set (w.setCell ⟨n.blk, j, none⟩ (.int .i64 (fid (T.drop c) j : Nat))) T[i].blk j (.int .i64 (n.id : Nat))
  have hib : T[i].blk < w0.heap.size := hfp _ (.inr (.inr ⟨T[i], List.getElem_mem hi, rfl⟩))
  refine ⟨k1.step hN hL hap hc hj hi hp, ?_, ?_, ?_⟩
  · have := (World.ownsRow.stored h.own j (.int .i64 (fid (T.drop c) j : Nat))).1
    rw [ownJ_step T c n.ht j hj] at this
    exact row_same this fun x hx => hs2.block x (World.ownsRow.lt this x hx).2 (fun e => by
      have : n.blk = x := by simpa [Value.ownBlock] using hx
      omega)
  · exact blk_chg (blk_chg h.xb hs1 hqn) hs2 (by omega)
  · refine (h.chg.trans2 hs1 (fun x hx e => ?_)).trans2 hs2 (fun x hx e => ?_)
    · omega
    · subst e; exact .inr (.inr ⟨T[i], List.getElem_mem hi, rfl⟩)
theorem PJ.below {NT LT : TypeId} {ek : κ → Value} {w0 w w' : World} {B p : Nat} {v : Value} {T : List (SE κ)} {c : Nat} {n : SE κ} {q j : Nat} (h : PJ NT LT ek w0 w B p v T c n q j) (hb : Below w.heap.size w w') : PJ NT LT ek w0 w' B p v T c n q j :=
  ⟨h.skj.below hb, row_past h.own hb (Nat.le_refl _), (hb.block q (blk_lt h.xb)).trans h.xb, h.chg.trans2 (Chg.of_below (F := fun _ => False) hb) (fun _ _ h => h.elim)⟩
/-- the end -/
theorem PJ.close {NT LT : TypeId} {ek : κ → Value} {w0 w : World} {B p : Nat} {v : Value} {T : List (SE κ)} {c : Nat} {n : SE κ} {q : Nat} (h : PJ NT LT ek w0 w B p v T c n q n.ht) (hsk : SK NT LT ek w0 B p v T)
    (hN : NT ≠ 3) (hL : LT ≠ NT) (hL2 : LT ≠ 3) (h0 : 0 < c) (hc : c ≤ T.length) (hnb : w0.heap.size ≤ n.blk) (hnid : n.id = T.length) :
    ∃ xs, w.ownsRow B NT 3 v T.length xs ∧ ∀ v2 w2, w2.ownsRow B NT 3 v2 (T.length + 1) (xs ++ [ek n.key, n.val, .slice (some ⟨n.blk, 0, none⟩) n.ht n.ht]) → App w w2 v v2 →
      SK NT LT ek (w2.setCell ⟨p, 0, none⟩ v2) B p v2 (insT T c n) ∧ Chg (Fp p v T) w0 (w2.setCell ⟨p, 0, none⟩ v2) ∧ Lies w0 v v2 ∧ w2.heap[p]? = some (.cells #[v] LT (0, 0)) := by
  obtain ⟨xs, hr, hx⟩ := h.skj.row
  have hown := h.own
  rw [ownJ_end] at hown
  refine ⟨xs, hr, fun v2 w2 ho2 ha => ⟨SKJ.close hN hL hL2 h0 hc h.skj.box hr hx h.skj.next hown hsk.apart hsk.ids hsk.idlt hsk.head hsk.low ?_ hnid ho2 ha, ?_, ?_, ?_⟩⟩
  · intro e he
    have := (hsk.fp_ge _ (.inr (.inr ⟨e, he, rfl⟩))).2
    omega
  · refine (h.chg.trans2 (Chg.of_app ha) (fun x _ hx => .inr (.inl hx))).trans2 (Chg.set w2 p 0 v2) (fun x _ hx => .inl hx)
  · rcases ha.lies with e | ⟨g, e1, e2⟩
    · exact .inl e
    · exact .inr ⟨g, e1, Nat.le_trans h.chg.size e2⟩
  · exact blk_chg h.skj.box (Chg.of_app ha) (row_ne3 hr h.skj.box hL)
end
set_option maxRecDepth 100000 in
/-- an array of twelve at an index -/
theorem arr12 (bs : List Nat) (hbs : bs.length = 12) (j : Nat) (hj : j < bs.length) : ∀ w, (Instr.index 75 (.agg (bvals bs).toArray) (.int .i64 (j : Nat))).run Try.prog w = .ok (.int .i64 (bs[j] : Nat)) w := by
  obtain ⟨b0, b1, b2, b3, b4, b5, b6, b7, b8, b9, b10, b11, rfl⟩ := twelve hbs
  intro w
  have hj : j < 12 := by simpa using hj
  have hc : j = 0 ∨ j = 1 ∨ j = 2 ∨ j = 3 ∨ j = 4 ∨ j = 5 ∨ j = 6 ∨ j = 7 ∨ j = 8 ∨ j = 9 ∨ j = 10 ∨ j = 11 := by omega
  rcases hc with rfl | rfl | rfl | rfl | rfl | rfl | rfl | rfl | rfl | rfl | rfl | rfl <;> first | kernel_rfl | rfl
end Go.Proofs.Ythpafhimmhacfaa
