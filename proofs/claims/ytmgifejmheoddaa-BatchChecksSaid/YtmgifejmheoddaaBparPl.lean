/- batP and batB belong together: plain law. -/
import Derived.Test.YtmgifejmheoddaaBpar
namespace Go.Proofs.Ytmgifejmheoddaa
open Go.RowKit
set_option linter.unusedVariables false
set_option linter.unusedSimpArgs false

theorem opRight_ok {x : OpD} (h : opRight x = true) : OpOk x := by
  unfold opRight at h
  simp only [decide_eq_true_eq] at h
  obtain ⟨h1, h2, h3, h4, h5, h6⟩ := h
  unfold OpOk maxLen
  exact ⟨by omega, by omega, by omega, by omega⟩
theorem sNum_back {o : Option (List UInt8)} {n : Nat} {r : List UInt8} (h : sNum o = (n, some r)) : o = some (num n ++ r) := by
  cases o with
  | none => cases h
  | some l =>
    cases e : rdNum 9 true l with
    | none => rw [sNum_no e] at h; cases h
    | some x =>
      obtain ⟨m, q⟩ := x
      rw [sNum_yes e] at h
      cases h
      rw [(rdNum_lt e).1]
theorem sText_back {o : Option (List UInt8)} {t r : List UInt8} (h : sText o = (t, some r)) : o = some (num t.length ++ t ++ r) := by
  cases o with
  | none => cases h
  | some l =>
    cases e : rdText l with
    | none => rw [sText_no e] at h; cases h
    | some x =>
      obtain ⟨t', q⟩ := x
      rw [sText_yes e] at h
      cases h
      obtain ⟨n, q', h1, h2, rfl, rfl⟩ := rdText_some e
      rw [List.length_take, Nat.min_eq_left h2, List.append_assoc, List.take_append_drop, ← (rdNum_lt h1).1]
theorem sByte_back {o : Option (List UInt8)} {c : UInt8} {r : List UInt8} (h : sByte o = (c, some r)) : o = some (c :: r) := by
  cases o with
  | none => cases h
  | some l =>
    cases l with
    | nil => cases h
    | cons a t => cases h; rfl
theorem sNum_num (n : Nat) (h : n < 9223372036854775808) (r : List UInt8) : sNum (some (num n ++ r)) = (n, some r) := sNum_yes (rdNum9_num h r)
theorem sText_num (m r : List UInt8) (h : m.length < 9223372036854775808) : sText (some (num m.length ++ m ++ r)) = (m, some r) := sText_yes (rdText_num m r h)
theorem toList_mk (l : List UInt8) : (⟨l.toArray⟩ : ByteArray).data.toList = l := rfl
theorem mk_toList (u : ByteArray) : (⟨u.data.toList.toArray⟩ : ByteArray) = u := rfl
theorem ofNat_toNat (c : UInt8) : UInt8.ofNat c.toNat = c := by simp
theorem sOp_back {o : Option (List UInt8)} {x : OpD} {r : List UInt8} (h : sOp o = (x, some r)) : o = some (opB x ++ r) := by
  unfold sOp at h
  cases hb : sByte o with
  | mk c o3 =>
    rw [hb] at h
    simp only at h
    cases ht : sText o3 with
    | mk k o4 =>
      rw [ht] at h
      simp only at h
      by_cases hc : c = 1
      · rw [if_pos hc] at h
        cases hv : sText o4 with
        | mk v o5 =>
          rw [hv] at h
          simp only [Prod.mk.injEq] at h
          obtain ⟨rfl, rfl⟩ := h
          have h4 := sText_back hv
          subst h4
          have h3 := sText_back ht
          subst h3
          have h2 := sByte_back hb
          rw [h2]
          unfold opB
          simp only [toList_mk, size_mk, if_true]
          rw [hc]
          simp only [List.append_assoc, List.cons_append]
          rfl
      · rw [if_neg hc] at h
        simp only [Prod.mk.injEq] at h
        obtain ⟨rfl, rfl⟩ := h
        have h3 := sText_back ht
        subst h3
        have h2 := sByte_back hb
        rw [h2]
        have hc1 : ¬ ((c.toNat : Int) = 1) := fun e => hc (by
          have h1 : c.toNat = (1 : UInt8).toNat := by rw [show (1 : UInt8).toNat = 1 from rfl]; omega
          exact UInt8.toNat_inj.1 h1)
        have hc8 := c.toNat_lt
        have e1 : ((c.toNat : Int) % 256).toNat = c.toNat := by omega
        unfold opB
        simp only [toList_mk, size_mk, if_neg hc1, e1, ofNat_toNat]
        simp only [List.append_assoc, List.cons_append, List.append_nil, List.nil_append]
theorem sOp_some {l : List UInt8} {o : Option (List UInt8)} : sOp o = ((sOp o).1, (sOp o).2) := rfl
theorem goP_back : ∀ (n : Nat) (o : Option (List UInt8)) (m : List OpD) (r : List UInt8), goP n o = (m, some r) → m.length = n ∧ o = some (opsB m ++ r)
  | 0, o, m, r, h => by cases h; exact ⟨rfl, rfl⟩
  | n + 1, none, m, r, h => by cases h
  | n + 1, some l, m, r, h => by
    rw [goP] at h
    cases hs : sOp (some l) with
    | mk x o' =>
      rw [hs] at h
      cases hq : goP n o' with
      | mk ms o2 =>
      simp only [hq, Prod.mk.injEq] at h
      obtain ⟨rfl, rfl⟩ := h
      obtain ⟨h3, h4⟩ := goP_back n o' ms r hq
      subst h4
      have h5 := sOp_back hs
      refine ⟨by rw [List.length_cons, h3], ?_⟩
      rw [h5]
      simp only [opsB, List.flatMap_cons, List.append_assoc]
theorem batP_back {l : List UInt8} {s : Int} {m : List OpD} (h : batP l = some (s, m)) : batB s m = l ∧ batRight s m = true := by
  unfold batP at h
  split at h
  · rename_i hc
    obtain ⟨h1, h2⟩ := hc
    cases h
    refine ⟨?_, h2⟩
    obtain ⟨_, hl1, hl2, _, _⟩ := batRight_all h2
    unfold batG at h1 h2 hl1 hl2 ⊢
    cases e1 : sNum (some l) with
    | mk sq o1 =>
      rw [e1] at h1 h2 hl1 hl2
      simp only at h1 h2 hl1 hl2 ⊢
      cases e2 : sNum o1 with
      | mk n o2 =>
        rw [e2] at h1 h2 hl1 hl2
        simp only at h1 h2 hl1 hl2 ⊢
        cases e3 : goP (least64 n) o2 with
        | mk ops o3 =>
          rw [e3] at h1 h2 hl1 hl2
          simp only at h1 h2 hl1 hl2 ⊢
          subst h1
          obtain ⟨h4, h5⟩ := goP_back _ _ _ _ e3
          subst h5
          have h6 := sNum_back e2
          subst h6
          have h7 := sNum_back e1
          cases h7
          have h8 : ops.length = n := by
            unfold least64 at h4
            split at h4 <;> omega
          unfold batB
          rw [h8, List.append_nil, Int.toNat_natCast, List.append_assoc]
  · cases h
theorem sOp_opB (x : OpD) (h : opRight x = true) (r : List UInt8) : sOp (some (opB x ++ r)) = (x, some r) := by
  unfold opRight at h
  simp only [decide_eq_true_eq] at h
  obtain ⟨h1, h2, h3, h4, h5, h6⟩ := h
  obtain ⟨k, u, v⟩ := x
  simp only at h1 h2 h3 h4 h5 h6
  have hk : k = 1 ∨ k = 2 := by omega
  have lu : u.data.toList.length = u.size := dataLen u
  have lv : v.data.toList.length = v.size := dataLen v
  rcases hk with rfl | rfl
  · have e : opB ⟨1, u, v⟩ ++ r = 1 :: (num u.data.toList.length ++ u.data.toList ++ (num v.data.toList.length ++ v.data.toList ++ r)) := by
      unfold opB; rw [lu, lv]; simp only [if_true, List.append_assoc, List.cons_append]; rfl
    rw [e]
    unfold sOp
    have s1 : sByte (some ((1 : UInt8) :: (num u.data.toList.length ++ u.data.toList ++ (num v.data.toList.length ++ v.data.toList ++ r)))) = (1, some (num u.data.toList.length ++ u.data.toList ++ (num v.data.toList.length ++ v.data.toList ++ r))) := rfl
    rw [s1]
    simp only [if_true]
    rw [sText_num _ _ (by omega)]
    simp only
    rw [sText_num _ _ (by omega)]
  · have hv : v = ⟨#[]⟩ := by
      have := h6 rfl
      obtain ⟨⟨vl⟩⟩ := v
      have : vl = [] := List.eq_nil_of_length_eq_zero this
      rw [this]
    subst hv
    have e : opB ⟨2, u, ⟨#[]⟩⟩ ++ r = 2 :: (num u.data.toList.length ++ u.data.toList ++ r) := by
      unfold opB; rw [lu]; simp only [List.append_assoc, List.cons_append]; rfl
    rw [e]
    unfold sOp
    have s1 : sByte (some ((2 : UInt8) :: (num u.data.toList.length ++ u.data.toList ++ r))) = (2, some (num u.data.toList.length ++ u.data.toList ++ r)) := rfl
    rw [s1]
    simp only
    rw [if_neg (by decide)]
    rw [sText_num _ _ (by omega)]
    rfl
theorem goP_opsB : ∀ (m : List OpD) (r : List UInt8), (∀ x ∈ m, opRight x = true) → goP m.length (some (opsB m ++ r)) = (m, some r)
  | [], r, _ => rfl
  | x :: m, r, h => by
    have e : opsB (x :: m) ++ r = opB x ++ (opsB m ++ r) := by simp only [opsB, List.flatMap_cons, List.append_assoc]
    rw [e, List.length_cons, goP, sOp_opB x (h x (by simp))]
    simp only
    rw [goP_opsB m r (fun y hy => h y (by simp [hy]))]
theorem batP_batB {s : Int} {m : List OpD} (h : batRight s m = true) : batP (batB s m) = some (s, m) := by
  obtain ⟨hall, h1, h2, h3, h4⟩ := batRight_all h
  obtain ⟨sq, rfl⟩ := Int.eq_ofNat_of_zero_le h3
  have e : batB (sq : Int) m = num sq ++ (num m.length ++ (opsB m ++ [])) := by
    unfold batB; rw [Int.toNat_natCast, List.append_nil, List.append_assoc]
  have hl : least64 m.length = m.length := by unfold least64; rw [if_pos h2]
  unfold batP batG
  rw [e, sNum_num _ (by omega)]
  simp only
  rw [sNum_num _ (by omega)]
  simp only
  rw [hl, goP_opsB m [] hall]
  simp only
  exact if_pos ⟨trivial, h⟩
end Go.Proofs.Ytmgifejmheoddaa
