/- A value is set anew. -/
import Derived.Test.YthpafhimmhacfaaSkP1
namespace Go.Proofs.Ythpafhimmhacfaa
open Go.RowKit
set_option linter.unusedVariables false
set_option linter.unusedSimpArgs false
section
variable {κ : Type}
def hid (e : SE κ) : Nat × Nat := (e.ht, e.id)
theorem fid_congr : ∀ (R R' : List (SE κ)) (h : Nat), R.map hid = R'.map hid → fid R h = fid R' h
  | [], [], _, _ => rfl
  | [], _ :: _, _, e => by cases e
  | _ :: _, [], _, e => by cases e
  | a :: R, b :: R', h, e => by
    simp only [List.map_cons, List.cons.injEq] at e
    have h1 := e.1
    unfold hid at h1
    simp only [Prod.mk.injEq] at h1
    unfold fid
    rw [h1.1, h1.2, fid_congr R R' h e.2]
theorem modify_hid (T : List (SE κ)) (c : Nat) (x : Value) : (T.modify c (setV · x)).map hid = T.map hid := by
  refine List.ext_getElem (by simp) fun i h1 h2 => ?_
  simp only [List.getElem_map, List.getElem_modify]
  split <;> rfl
theorem modify_at (T : List (SE κ)) (c : Nat) (x : Value) (i : Nat) (hi : i < (T.modify c (setV · x)).length) : ∃ h : i < T.length, (T.modify c (setV · x))[i].key = T[i].key ∧ (T.modify c (setV · x))[i].ht = T[i].ht ∧ (T.modify c (setV · x))[i].id = T[i].id ∧ (T.modify c (setV · x))[i].blk = T[i].blk ∧ (T.modify c (setV · x))[i].val = if c = i then x else T[i].val := by
  have h : i < T.length := by simpa using hi
  refine ⟨h, ?_⟩
  rw [List.getElem_modify]
  by_cases e : c = i
  · rw [if_pos e, if_pos e]; exact ⟨rfl, rfl, rfl, rfl, rfl⟩
  · rw [if_neg e, if_neg e]; exact ⟨rfl, rfl, rfl, rfl, rfl⟩
theorem SK.setVal {NT LT : TypeId} {ek : κ → Value} {w : World} {B p g cv : Nat} {T : List (SE κ)} (h : SK NT LT ek w B p (.slice (some ⟨g, 0, none⟩) T.length cv) T) (hN : NT ≠ 3) (hL : LT ≠ NT) (c : Nat) (hc : c < T.length) (x : Value) :
    SK NT LT ek (w.setCell ⟨g, T[c].id * 3 + 1, none⟩ x) B p (.slice (some ⟨g, 0, none⟩) T.length cv) (T.modify c (setV · x)) := by
  obtain ⟨xs, hr, hx⟩ := h.row
  have hlen : (T.modify c (setV · x)).length = T.length := by simp
  have hxl : xs.length = T.length * 3 := hr.1
  have hcid := h.idlt _ (List.getElem_mem hc)
  refine ⟨?_, ⟨xs.set (T[c].id * 3 + 1) x, ?_, ?_⟩, ?_, ?_, ?_, ?_, ?_, h.low⟩
  · exact blk_chg h.box (Chg.set w g _ x) (fun e => row_ne3 hr h.box hL (by rw [e]; rfl))
  · rw [hlen]; exact (World.ownsRow.stored hr (T[c].id * 3 + 1) x).1
  · intro e he
    obtain ⟨i, hi, rfl⟩ := List.getElem_of_mem he
    obtain ⟨hiT, m1, m2, m3, m4, m5⟩ := modify_at T c x i hi
    obtain ⟨x0, x1, x2⟩ := hx _ (List.getElem_mem hiT)
    rw [m1, m2, m3, m4, m5]
    by_cases e : c = i
    · subst e
      rw [if_pos rfl]
      refine ⟨?_, ?_, ?_⟩
      · rw [List.getElem?_set_ne (by omega)]; exact x0
      · rw [Nat.mul_comm 3, List.getElem?_set_self (by omega)]
      · rw [List.getElem?_set_ne (by omega)]; exact x2
    · rw [if_neg e]
      have hne : T[c].id ≠ T[i].id := fun he => e (h.ids c i hc hiT he)
      refine ⟨?_, ?_, ?_⟩
      · rw [List.getElem?_set_ne (by omega)]; exact x0
      · rw [List.getElem?_set_ne (by omega)]; exact x1
      · rw [List.getElem?_set_ne (by omega)]; exact x2
  · intro i hi
    obtain ⟨hiT, m1, m2, m3, m4, m5⟩ := modify_at T c x i hi
    have hn : nxs ((T.modify c (setV · x)).drop (i + 1)) (T.modify c (setV · x))[i].ht = nxs (T.drop (i + 1)) T[i].ht := by
      unfold nxs
      rw [m2]
      refine List.map_congr_left fun h _ => ?_
      rw [fid_congr _ (T.drop (i + 1)) h (by rw [List.map_drop, List.map_drop, modify_hid])]
    rw [hn, m2, m4]
    have hnx := h.next i hiT
    exact row_same hnx fun k hk => (Chg.set w g _ x).block k (World.ownsRow.lt hnx k hk).2 (fun e => row_two hr hnx hN k (by rw [e]; rfl) hk)
  · intro i j hi hj e
    obtain ⟨hiT, _, _, _, m4, _⟩ := modify_at T c x i hi
    obtain ⟨hjT, _, _, _, n4, _⟩ := modify_at T c x j hj
    exact h.apart i j hiT hjT (by rw [← m4, e, n4])
  · intro i j hi hj e
    obtain ⟨hiT, _, _, m3, _, _⟩ := modify_at T c x i hi
    obtain ⟨hjT, _, _, n3, _, _⟩ := modify_at T c x j hj
    exact h.ids i j hiT hjT (by rw [← m3, e, n3])
  · intro e he
    obtain ⟨i, hi, rfl⟩ := List.getElem_of_mem he
    obtain ⟨hiT, _, _, m3, _, _⟩ := modify_at T c x i hi
    rw [m3, hlen]; exact h.idlt _ (List.getElem_mem hiT)
  · obtain ⟨e, S, hT, h1, h2⟩ := h.head
    subst hT
    cases c with
    | zero => exact ⟨setV e x, S, rfl, h1, h2⟩
    | succ c => exact ⟨e, S.modify c (setV · x), rfl, h1, h2⟩
end
end Go.Proofs.Ythpafhimmhacfaa
