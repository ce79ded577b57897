/- The end of Put: the row with the new node is laid at the list's block. -/
import Derived.Test.YthpafhimmhacfaaSkP6
namespace Go.Proofs.Ythpafhimmhacfaa
open Go.RowKit
set_option linter.unusedVariables false
set_option linter.unusedSimpArgs false
section
variable {κ : Type}
/-- the blocks of a list -/
def Fp (p : Nat) (v : Value) (T : List (SE κ)) (k : Nat) : Prop := k = p ∨ v.ownBlock = some k ∨ ∃ e ∈ T, e.blk = k
theorem SK.fp_ge {NT LT : TypeId} {ek : κ → Value} {w : World} {B p : Nat} {v : Value} {T : List (SE κ)} (h : SK NT LT ek w B p v T) : ∀ k, Fp p v T k → B ≤ k ∧ k < w.heap.size := by
  rintro k (rfl | h1 | ⟨e, he, rfl⟩)
  · exact ⟨h.low, blk_lt h.box⟩
  · obtain ⟨xs, hr, _⟩ := h.row
    exact World.ownsRow.lt hr k h1
  · obtain ⟨i, hi, rfl⟩ := List.getElem_of_mem he
    exact World.ownsRow.lt (h.next i hi) _ rfl
theorem SK.chg {NT LT : TypeId} {ek : κ → Value} {w w' : World} {B p : Nat} {v : Value} {T : List (SE κ)} {F : Nat → Prop} (h : SK NT LT ek w B p v T) (hc : Chg F w w') (hF : ∀ k, Fp p v T k → ¬ F k) : SK NT LT ek w' B p v T := by
  obtain ⟨xs, hr, hx⟩ := h.row
  refine ⟨(hc.block p (blk_lt h.box) (hF _ (.inl rfl))).trans h.box, ⟨xs, row_same hr fun k hk => hc.block k (World.ownsRow.lt hr k hk).2 (hF _ (.inr (.inl hk))), hx⟩, fun i hi => ?_, h.apart, h.ids, h.idlt, h.head, h.low⟩
  refine row_same (h.next i hi) fun k hk => hc.block k (World.ownsRow.lt (h.next i hi) k hk).2 (hF _ (.inr (.inr ⟨T[i], List.getElem_mem hi, ?_⟩)))
  simpa [Value.ownBlock] using hk
theorem insT_mem {T : List (SE κ)} {c : Nat} {n e : SE κ} (he : e ∈ insT T c n) : e = n ∨ e ∈ T := by
  unfold insT at he
  rcases List.mem_append.1 he with h | h
  · exact .inr (List.mem_of_mem_take h)
  · rcases List.mem_cons.1 h with h | h
    · exact .inl h
    · exact .inr (List.mem_of_mem_drop h)
theorem SKJ.close {NT LT : TypeId} {ek : κ → Value} {w w2 : World} {B p : Nat} {v v2 : Value} {T : List (SE κ)} {c : Nat} {n : SE κ} {xs : List Value}
    (hN : NT ≠ 3) (hL : LT ≠ NT) (hL2 : LT ≠ 3) (h0 : 0 < c) (hc : c ≤ T.length)
    (box : w.heap[p]? = some (.cells #[v] LT (0, 0))) (hr : w.ownsRow B NT 3 v T.length xs) (hx : ∀ e ∈ T, xs[3 * e.id]? = some (ek e.key) ∧ xs[3 * e.id + 1]? = some e.val ∧ xs[3 * e.id + 2]? = some (.slice (some ⟨e.blk, 0, none⟩) e.ht e.ht))
    (next : ∀ i (hi : i < T.length), w.ownsRow B 3 1 (.slice (some ⟨T[i].blk, 0, none⟩) T[i].ht T[i].ht) T[i].ht (nxJ T c n n.ht i T[i].ht))
    (own : w.ownsRow B 3 1 (.slice (some ⟨n.blk, 0, none⟩) n.ht n.ht) n.ht (nxs (T.drop c) n.ht))
    (hap : ∀ i j (hi : i < T.length) (hj : j < T.length), T[i].blk = T[j].blk → i = j) (hids : ∀ i j (hi : i < T.length) (hj : j < T.length), T[i].id = T[j].id → i = j) (hidlt : ∀ e ∈ T, e.id < T.length)
    (hhead : ∃ e S, T = e :: S ∧ e.id = 0 ∧ e.ht = 12) (hlow : B ≤ p) (hnb : ∀ e ∈ T, e.blk ≠ n.blk) (hnid : n.id = T.length)
    (ho2 : w2.ownsRow B NT 3 v2 (T.length + 1) (xs ++ [ek n.key, n.val, .slice (some ⟨n.blk, 0, none⟩) n.ht n.ht])) (ha : App w w2 v v2) :
    SK NT LT ek (w2.setCell ⟨p, 0, none⟩ v2) B p v2 (insT T c n) := by
  have hlen := insT_len T c n hc
  have hxl : xs.length = T.length * 3 := hr.1
  have hvp : v.ownBlock ≠ some p := row_ne3 hr box hL
  have box2 : w2.heap[p]? = some (.cells #[v] LT (0, 0)) := blk_chg box (Chg.of_app ha) hvp
  have hv2p : v2.ownBlock ≠ some p := row_ne3 ho2 box2 hL
  have keep : ∀ {m q : Nat} {ys : List Value}, w.ownsRow B 3 1 (.slice (some ⟨q, 0, none⟩) m m) m ys → (w2.setCell ⟨p, 0, none⟩ v2).ownsRow B 3 1 (.slice (some ⟨q, 0, none⟩) m m) m ys := fun {m q ys} hrow => by
    have h1 : w2.ownsRow B 3 1 (.slice (some ⟨q, 0, none⟩) m m) m ys := row_same hrow fun k hk => (Chg.of_app ha).block k (World.ownsRow.lt hrow k hk).2 (fun e => row_two hr hrow hN k e hk)
    exact row_same h1 fun k hk => (Chg.set w2 p 0 v2).block k (World.ownsRow.lt h1 k hk).2 (fun e => row_ne3 h1 box2 hL2 (by rw [hk, e]))
  refine ⟨?_, ⟨xs ++ [ek n.key, n.val, .slice (some ⟨n.blk, 0, none⟩) n.ht n.ht], ?_, ?_⟩, ?_, ?_, ?_, ?_, ?_, hlow⟩
  · exact heap_set_list (l := [v]) box2 0 v2
  · rw [hlen]
    exact row_same ho2 fun k hk => (Chg.set w2 p 0 v2).block k (World.ownsRow.lt ho2 k hk).2 (fun e => hv2p (by rw [hk, e]))
  · intro e he
    rcases insT_mem he with rfl | he
    · rw [hnid]
      refine ⟨?_, ?_, ?_⟩
      · rw [List.getElem?_append_right (by omega), show 3 * T.length - xs.length = 0 by omega]; rfl
      · rw [List.getElem?_append_right (by omega), show 3 * T.length + 1 - xs.length = 1 by omega]; rfl
      · rw [List.getElem?_append_right (by omega), show 3 * T.length + 2 - xs.length = 2 by omega]; rfl
    · have := hidlt e he
      obtain ⟨x0, x1, x2⟩ := hx e he
      refine ⟨?_, ?_, ?_⟩
      · rw [List.getElem?_append_left (by omega)]; exact x0
      · rw [List.getElem?_append_left (by omega)]; exact x1
      · rw [List.getElem?_append_left (by omega)]; exact x2
  · intro x hx'
    rcases insT_cases T c n hc x hx' with ⟨_, e2, e3⟩ | ⟨i, hi, _, e2, e3⟩
    · rw [e3, e2]; exact keep own
    · rw [e3, e2]
      have := next i hi
      rw [nxJ_end T c n i _ hc] at this
      exact keep this
  · intro x y hx' hy' e
    rcases insT_cases T c n hc x hx' with ⟨x1, x2, _⟩ | ⟨i, hi, x1, x2, _⟩ <;> rcases insT_cases T c n hc y hy' with ⟨y1, y2, _⟩ | ⟨j, hj, y1, y2, _⟩
    · rw [x1, y1]
    · rw [x2, y2] at e; exact absurd e.symm (hnb _ (List.getElem_mem hj))
    · rw [x2, y2] at e; exact absurd e (hnb _ (List.getElem_mem hi))
    · rw [x2, y2] at e
      obtain rfl := hap i j hi hj e
      rw [x1, y1]
  · intro x y hx' hy' e
    rcases insT_cases T c n hc x hx' with ⟨x1, x2, _⟩ | ⟨i, hi, x1, x2, _⟩ <;> rcases insT_cases T c n hc y hy' with ⟨y1, y2, _⟩ | ⟨j, hj, y1, y2, _⟩
    · rw [x1, y1]
    · rw [x2, y2, hnid] at e; have := hidlt _ (List.getElem_mem hj); omega
    · rw [x2, y2, hnid] at e; have := hidlt _ (List.getElem_mem hi); omega
    · rw [x2, y2] at e
      obtain rfl := hids i j hi hj e
      rw [x1, y1]
  · intro e he
    rw [hlen]
    rcases insT_mem he with rfl | he
    · omega
    · have := hidlt e he; omega
  · obtain ⟨e, S, hT, h1, h2⟩ := hhead
    subst hT
    cases c with
    | zero => omega
    | succ c => exact ⟨e, S.take c ++ n :: S.drop c, rfl, h1, h2⟩
end
end Go.Proofs.Ythpafhimmhacfaa
