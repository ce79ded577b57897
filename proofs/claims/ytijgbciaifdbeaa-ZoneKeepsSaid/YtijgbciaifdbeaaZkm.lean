/- ZoneKeeps: what it keeps in memory; the plain law. -/
import Derived.Test.YtijgbciaifdbeaaZap
import Derived.Test.YtijgbciaifdbeaaZop
namespace Go.Proofs.Ytijgbciaifdbeaa
open Go.RowKit
set_option linter.unusedVariables false
set_option linter.unusedSimpArgs false

def nvz (S : List Nat) : List Value := S.map fun (x : Nat) => Value.int .i64 (x : Int)
theorem nvz_set (l : List Nat) (j : Nat) (x : Nat) : nvz (l.set j x) = (nvz l).set j (.int .i64 (x : Int)) := by simp [nvz]
theorem LV.chg {F : Nat → Prop} {w w' : World} {v : Value} {l : List UInt8} (h : LV w v l) (hc : Chg F w w') (hd : ∀ k, v.ownBlock = some k → ¬ F k) : LV w' v l := by
  rcases h with h | ⟨b, off, c, e, h1, h2, h3⟩
  · exact .inl h
  · exact .inr ⟨b, off, c, e, h1, h2, h3.chg hc fun _ => hd⟩
structure KM (w : World) (B la sa n : Nat) (F : Nat → Prop) (vs : List Value) (L : List (List UInt8)) (S : List Nat) : Prop where
  row : w.ownsRow B 28 1 (.slice (some ⟨la, 0, none⟩) n n) n vs
  srow : w.ownsRow B 3 1 (.slice (some ⟨sa, 0, none⟩) n n) n (nvz S)
  ll : L.length = n
  lv : ∀ i (h : i < vs.length) (h2 : i < L.length), LV w vs[i] L[i]
  ap : ∀ i (h : i < vs.length), ∀ k, vs[i].ownBlock = some k → k < w.heap.size ∧ k ≠ la ∧ k ≠ sa ∧ ¬ F k
  ne : la ≠ sa
  fl : ¬ F la
  fs : ¬ F sa
section
variable {w w' : World} {B la sa n : Nat} {F : Nat → Prop} {vs : List Value} {L : List (List UInt8)} {S : List Nat}
theorem KM.vl (h : KM w B la sa n F vs L S) : vs.length = n := by have := h.row.1; omega
theorem KM.sl (h : KM w B la sa n F vs L S) : S.length = n := by have := h.srow.1; simp [nvz] at this; exact this
theorem KM.lal (h : KM w B la sa n F vs L S) : B ≤ la ∧ la < w.heap.size := World.ownsRow.lt h.row la rfl
theorem KM.sal (h : KM w B la sa n F vs L S) : B ≤ sa ∧ sa < w.heap.size := World.ownsRow.lt h.srow sa rfl
theorem KM.chg {E F' : Nat → Prop} (h : KM w B la sa n F vs L S) (hc : Chg E w w') (hl : ¬ E la) (hs : ¬ E sa) (hv : ∀ i (hi : i < vs.length) k, vs[i].ownBlock = some k → ¬ E k) (hF : ∀ k, F' k → F k ∨ w.heap.size ≤ k) : KM w' B la sa n F' vs L S := by
  refine ⟨row_same h.row fun k hk => ?_, row_same h.srow fun k hk => ?_, h.ll, fun i h1 h2 => (h.lv i h1 h2).chg hc (hv i h1), fun i hi k hk => ?_, h.ne, fun hf => ?_, fun hf => ?_⟩
  · have e : la = k := by simpa [Value.ownBlock] using hk
    subst e; exact hc.block la h.lal.2 hl
  · have e : sa = k := by simpa [Value.ownBlock] using hk
    subst e; exact hc.block sa h.sal.2 hs
  · obtain ⟨a1, a2, a3, a4⟩ := h.ap i hi k hk
    refine ⟨Nat.lt_of_lt_of_le a1 hc.size, a2, a3, fun hf => ?_⟩
    rcases hF k hf with h1 | h1
    · exact a4 h1
    · omega
  · rcases hF la hf with h1 | h1
    · exact h.fl h1
    · have := h.lal.2; omega
  · rcases hF sa hf with h1 | h1
    · exact h.fs h1
    · have := h.sal.2; omega
theorem KM.below (h : KM w B la sa n F vs L S) (hb : Below w.heap.size w w') : KM w' B la sa n F vs L S := h.chg (E := fun _ => False) (Chg.of_below hb) (fun h => h) (fun h => h) (fun _ _ _ _ h => h) fun k h => .inl h
theorem KM.dev {F' : Nat → Prop} (h : KM w B la sa n F vs L S) (hc : Chg F w w') (hF : ∀ k, F' k → F k ∨ w.heap.size ≤ k) : KM w' B la sa n F' vs L S := h.chg hc h.fl h.fs (fun i hi k hk => (h.ap i hi k hk).2.2.2) hF
theorem KM.lcell (h : KM w B la sa n F vs L S) (i : Nat) (hi : i < vs.length) : w.cell? ⟨la, i, none⟩ = some vs[i] ∧ w.frozen? ⟨la, i, none⟩ = false := by
  refine ⟨?_, World.ownsRow.frozenAt h.row i⟩
  rw [World.ownsRow.cellAt h.row i (by have := h.vl; omega)]
  simp [hi]
theorem KM.scell (h : KM w B la sa n F vs L S) (i : Nat) (hi : i < S.length) : w.cell? ⟨sa, i, none⟩ = some (.int .i64 (S[i] : Nat)) ∧ w.frozen? ⟨sa, i, none⟩ = false := by
  refine ⟨?_, World.ownsRow.frozenAt h.srow i⟩
  rw [World.ownsRow.cellAt h.srow i (by have := h.sl; omega)]
  simp [nvz, hi]
theorem KM.setL (h : KM w B la sa n F vs L S) (i : Nat) (v : Value) (l : List UInt8) (hv : LV w v l) (ha : ∀ k, v.ownBlock = some k → k < w.heap.size ∧ k ≠ la ∧ k ≠ sa ∧ ¬ F k) : KM (w.setCell ⟨la, i, none⟩ v) B la sa n F (vs.set i v) (L.set i l) S := by
  have hc := Chg.set w la i v
  have hz : w.heap.size = (w.setCell ⟨la, i, none⟩ v).heap.size := by simp [World.setCell]
  refine ⟨(World.ownsRow.stored h.row i v).1, row_same h.srow fun k hk => ?_, by rw [List.length_set]; exact h.ll, fun j h1 h2 => ?_, fun j h1 k hk => ?_, h.ne, h.fl, h.fs⟩
  · have e : sa = k := by simpa [Value.ownBlock] using hk
    subst e; exact hc.block sa h.sal.2 (fun e => h.ne e.symm)
  · rw [List.length_set] at h1 h2
    rw [List.getElem_set, List.getElem_set]
    by_cases e : i = j
    · rw [if_pos e, if_pos e]; exact hv.chg hc fun k hk e2 => (ha k hk).2.1 e2
    · rw [if_neg e, if_neg e]; exact (h.lv j h1 h2).chg hc fun k hk e2 => (h.ap j h1 k hk).2.1 e2
  · rw [List.length_set] at h1
    rw [List.getElem_set] at hk
    rw [← hz]
    by_cases e : i = j
    · rw [if_pos e] at hk; exact ha k hk
    · rw [if_neg e] at hk; exact h.ap j h1 k hk
theorem KM.setS (h : KM w B la sa n F vs L S) (i x : Nat) : KM (w.setCell ⟨sa, i, none⟩ (.int .i64 (x : Int))) B la sa n F vs L (S.set i x) := by
  have hc := Chg.set w sa i (.int .i64 (x : Int))
  have hz : w.heap.size = (w.setCell ⟨sa, i, none⟩ (.int .i64 (x : Int))).heap.size := by simp [World.setCell]
  refine ⟨row_same h.row fun k hk => ?_, by rw [nvz_set]; exact (World.ownsRow.stored h.srow i _).1, h.ll, fun j h1 h2 => (h.lv j h1 h2).chg hc fun k hk e2 => (h.ap j h1 k hk).2.2.1 e2, fun j h1 k hk => by rw [← hz]; exact h.ap j h1 k hk, h.ne, h.fl, h.fs⟩
  have e : la = k := by simpa [Value.ownBlock] using hk
  subst e; exact hc.block la h.lal.2 h.ne
theorem KM.lv' (h : KM w B la sa n F vs L S) (i : Nat) (h1 : i < vs.length) (h2 : i < L.length) : ∃ a c, vs[i] = .slice a L[i].length c ∧ L[i].length ≤ c ∧ ((a = none ∧ c = 0 ∧ L[i] = []) ∨ ∃ b off, a = some ⟨b, off, none⟩ ∧ c ≤ maxLen) := by
  rcases h.lv i h1 h2 with ⟨e, e2⟩ | ⟨b, off, c, e, hc, hm, _⟩
  · exact ⟨none, 0, by rw [e, e2]; rfl, by rw [e2]; exact Nat.le_refl _, .inl ⟨rfl, rfl, e2⟩⟩
  · exact ⟨_, c, e, hc, .inr ⟨b, off, rfl, hm⟩⟩
end
/-- what an append does to the bytes of zone k -/
theorem zapp_laid {D : Dv} {k : Nat} (hk : k < D.A.length) (hl : D.A.length = D.n) (m : List UInt8) :
    ((zapp D k m).1.A.map Zn.fl = D.A.map Zn.fl) ∧ (((zapp D k m).1.A.map Zn.b = (D.A.map Zn.b).set k (D.A[k].b ++ m) ∧ zpt (zapp D k m).1 k = ((D.A[k].b.length + m.length : Nat) : Int) ∧ ((zapp D k m).2 = 0 ∨ (zapp D k m).2 = 74)) ∨
      ((zapp D k m).1 = D ∧ zpt D k = (D.A[k].b.length : Nat) ∧ (m ≠ [] ∨ ((zapp D k m).2 ≠ 0 ∧ (zapp D k m).2 ≠ 74)))) := by
  have hpt := zpt_at (D := D) k hk
  have hset : (D.A.map Zn.b).set k D.A[k].b = D.A.map Zn.b := by
    refine List.ext_getElem (by simp) fun i h1 h2 => ?_
    rw [List.getElem_set]
    split
    · rename_i e; subst e; simp
    · rfl
  cases hd : D.down with
  | true =>
    rw [zapp_bad (.inl hd), zfnd_down hd]
    refine ⟨rfl, ?_⟩
    cases m with
    | nil => exact .inl ⟨by rw [List.append_nil, hset], by simpa using hpt, .inr rfl⟩
    | cons x m => exact .inr ⟨rfl, hpt, .inl (by simp)⟩
  | false =>
    rw [zapp_in hd (by omega) hk]
    unfold zappA
    split
    · exact ⟨rfl, .inr ⟨rfl, hpt, .inr ⟨show (71 : Int) ≠ 0 by decide, show (71 : Int) ≠ 74 by decide⟩⟩⟩
    · split
      · exact ⟨rfl, .inr ⟨rfl, hpt, .inr ⟨show (72 : Int) ≠ 0 by decide, show (72 : Int) ≠ 74 by decide⟩⟩⟩
      · split
        · exact ⟨rfl, .inr ⟨rfl, hpt, .inr ⟨show (73 : Int) ≠ 0 by decide, show (73 : Int) ≠ 74 by decide⟩⟩⟩
        · obtain ⟨a1, a2, a3, a4, a5⟩ := zcmd_two { D with A := D.A.set k ⟨if D.A[k].b.length + m.length = D.size then 2 else 1, D.A[k].b ++ m, D.A[k].fl⟩ }
          refine ⟨?_, .inl ⟨?_, ?_, a1⟩⟩
          · rw [a2]
            refine List.ext_getElem (by simp) fun i h1 h2 => ?_
            simp only [List.getElem_map, List.getElem_set]
            split
            · rename_i e; subst e; rfl
            · rfl
          · rw [a2, List.map_set]
          · unfold zpt
            rw [dif_pos ⟨by omega, by rw [a2]; simpa using hk⟩]
            simp only [a2, Int.toNat_natCast, List.getElem_set_self, List.length_append]
theorem zfin_maps (D : Dv) (z : Int) : (zfin D z).1.A.map Zn.b = D.A.map Zn.b ∧ (zfin D z).1.A.map Zn.fl = D.A.map Zn.fl := by
  unfold zfin
  split
  · exact ⟨rfl, rfl⟩
  · split
    · rename_i hz
      split
      · exact ⟨rfl, rfl⟩
      · unfold zthen
        have h2 := (zcmd_two D).2.1
        split
        · simp only [h2]
          refine ⟨List.ext_getElem (by simp) fun i h1 h3 => ?_, List.ext_getElem (by simp) fun i h1 h3 => ?_⟩ <;>
            (simp only [List.getElem_map, List.getElem_set]; split <;> rename_i e <;> first | (subst e; rfl) | rfl)
        · exact ⟨by rw [h2], by rw [h2]⟩
    · exact ⟨rfl, rfl⟩
theorem zrst_maps (D : Dv) (z : Int) (hl : D.A.length = D.n) : ((zrst D z).2 = 0 ∧ ∃ k : Nat, z = k ∧ k < D.n ∧ (zrst D z).1.A.map Zn.b = (D.A.map Zn.b).set k [] ∧ (zrst D z).1.A.map Zn.fl = (D.A.map Zn.fl).set k 0) ∨ ((zrst D z).2 ≠ 0 ∧ (zrst D z).1.A = D.A) := by
  rcases zcases D z with hz | ⟨hd, m, rfl, hm⟩
  · have e : zrst D z = (D, zfnd D z) := if_pos (zfnd_ne hz).1
    rw [e]
    exact .inr ⟨(zfnd_ne hz).1, rfl⟩
  · unfold zrst
    rw [if_neg (by rw [zfnd_in hd hm]; simp)]
    unfold zthen
    have h2 := (zcmd_two D).2.1
    split
    · refine .inl ⟨rfl, m, rfl, hm, ?_, ?_⟩
      · simp only [h2, Int.toNat_natCast, List.map_set]
      · simp only [h2, Int.toNat_natCast, List.map_set]
    · rename_i h0
      exact .inr ⟨h0, h2⟩
theorem zflu_maps (D : Dv) : ((zflu D).2 = 0 ∧ (zflu D).1.A.map Zn.b = D.A.map Zn.b ∧ (zflu D).1.A.map Zn.fl = D.A.map fun z => z.b.length) ∨ ((zflu D).2 ≠ 0 ∧ (zflu D).1.A = D.A) := by
  unfold zflu
  split
  · exact .inr ⟨show (74 : Int) ≠ 0 by decide, rfl⟩
  · unfold zthen
    have h2 := (zcmd_two D).2.1
    split
    · refine .inl ⟨rfl, ?_, ?_⟩
      · simp only [h2]
        exact List.ext_getElem (by simp) fun i h1 h3 => by simp [zflz]
      · simp only [h2]
        exact List.ext_getElem (by simp) fun i h1 h3 => by simp [zflz]
    · rename_i h0
      exact .inr ⟨h0, h2⟩
theorem zcrs_at (D : Dv) (keep : List Int) (i : Nat) (hi : i < D.A.length) (hf : D.A[i].fl ≤ D.A[i].b.length) : ∃ nn : Nat, ∃ h : i < (zcrs D keep).A.length, D.A[i].fl ≤ nn ∧ nn ≤ D.A[i].b.length ∧ (zcrs D keep).A[i].b = D.A[i].b.take nn ∧ (zcrs D keep).A[i].fl = nn := by
  refine ⟨D.A[i].fl + zmore keep i D.A[i], by simp [zcrs]; exact hi, Nat.le_add_right _ _, zmore_le keep i D.A[i] hf, ?_, ?_⟩
  · simp [zcrs, zcut]
  · simp [zcrs, zcut]
end Go.Proofs.Ytijgbciaifdbeaa
