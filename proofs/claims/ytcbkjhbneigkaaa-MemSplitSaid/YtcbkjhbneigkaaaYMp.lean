/- Chapter 11: entries of a table, in order: plain laws. -/
import Derived.Test.YtcbkjhbneigkaaaYKeyOrd
import Derived.Test.YtcbkjhbneigkaaaYJa
import Derived.Test.YtcbkjhbneigkaaaYJa
namespace Go.Proofs.Ytcbkjhbneigkaaa
open Go.RowKit
set_option linter.unusedVariables false
set_option linter.unusedSimpArgs false

/-- an entry: user, number, kind, value -/
structure ME where
  u : ByteArray
  s : Int
  k : Int
  v : ByteArray
def mkb (u : ByteArray) (s k : Int) : ByteArray := ⟨(keyBytes u.data.toList s k).toArray⟩
abbrev mkey (e : ME) : ByteArray := mkb e.u e.s e.k
def MOk (e : ME) : Prop := keyRight e.u e.s e.k = true ∧ e.v.size ≤ 4096
def mcmp (a b : ME) : Int := kcmp a.u a.s a.k b.u b.s b.k
theorem mkb_list (u : ByteArray) (s k : Int) : (mkb u s k).data.toList = keyBytes u.data.toList s k := rfl
theorem blt_mkb {u v : ByteArray} {s k t l : Int} (h1 : keyRight u s k = true) (h2 : keyRight v t l = true) : blt (mkb u s k) (mkb v t l) = decide (kcmp u s k v t l < 0) := by
  unfold blt ahead
  rw [mkb_list, mkb_list, cmp_keyBytes0 _ _ _ _ _ _ h1 h2]
theorem kcmp_same0 {u v : ByteArray} {s k t l : Int} (h : kcmp u s k v t l = 0) : u = v ∧ s = t ∧ k = l := by
  unfold kcmp or3 icmp at h
  have h0 := (bo_eq u.data.toList v.data.toList).1
  by_cases e : Lib.compareBytes u.data.toList v.data.toList = 0
  · rw [if_neg (by omega)] at h
    refine ⟨bo_ext (h0 e), ?_⟩
    (repeat' split at h) <;> omega
  · rw [if_pos e] at h; exact absurd h e
theorem mkb_inj {u v : ByteArray} {s k t l : Int} (h1 : keyRight u s k = true) (h2 : keyRight v t l = true) (h : mkb u s k = mkb v t l) : u = v ∧ s = t ∧ k = l := by
  refine kcmp_same0 ?_
  rw [← cmp_keyBytes0 _ _ _ _ _ _ h1 h2, ← mkb_list, ← mkb_list, h]
  exact (bo_eq _ _).2 rfl
/-- strictly in order -/
def MRise : List ME → Prop
  | [] => True
  | e :: R => (∀ f ∈ R, mcmp e f < 0) ∧ MRise R
def mcut (k : ByteArray) : List ME → Nat
  | [] => 0
  | e :: R => if blt (mkey e) k = true then mcut k R + 1 else 0
theorem mcut_le (k : ByteArray) : ∀ M : List ME, mcut k M ≤ M.length
  | [] => Nat.le_refl _
  | e :: R => by have := mcut_le k R; unfold mcut; split <;> simp only [List.length_cons] <;> omega
/-- the list's entries and the table's -/
def kv (e : E3 ByteArray ByteArray) : ByteArray × ByteArray := (e.k, e.v)
def mkv (e : ME) : ByteArray × ByteArray := (mkey e, e.v)
def Same11 (L : List (E3 ByteArray ByteArray)) (M : List ME) : Prop := L.map kv = M.map mkv
theorem Same11.len {L : List (E3 ByteArray ByteArray)} {M : List ME} (h : Same11 L M) : L.length = M.length := by simpa using congrArg List.length h
theorem Same11.at {L : List (E3 ByteArray ByteArray)} {M : List ME} (h : Same11 L M) (i : Nat) (h1 : i < L.length) (h2 : i < M.length) : L[i].k = mkey M[i] ∧ L[i].v = M[i].v := by
  have e : (L.map kv)[i]? = (M.map mkv)[i]? := by rw [h]
  rw [List.getElem?_map, List.getElem?_map, List.getElem?_eq_getElem h1, List.getElem?_eq_getElem h2] at e
  simpa [kv, mkv] using e
theorem Same11.cut (k : ByteArray) : ∀ {L : List (E3 ByteArray ByteArray)} {M : List ME}, Same11 L M → cutE blt k L = mcut k M
  | [], [], _ => rfl
  | [], _ :: _, h => by cases h
  | _ :: _, [], h => by cases h
  | a :: L, b :: M, h => by
    unfold Same11 at h
    rw [List.map_cons, List.map_cons, List.cons.injEq] at h
    have e : a.k = mkey b := congrArg Prod.fst h.1
    have ih := Same11.cut k (L := L) (M := M) h.2
    unfold cutE mcut
    rw [e, ih]
theorem Same11.rise : ∀ {L : List (E3 ByteArray ByteArray)} {M : List ME}, Same11 L M → (∀ e ∈ M, MOk e) → MRise M → ERise blt L
  | [], [], _, _, _ => trivial
  | [], _ :: _, h, _, _ => by cases h
  | _ :: _, [], h, _, _ => by cases h
  | a :: L, b :: M, h, hok, hr => by
    unfold Same11 at h
    rw [List.map_cons, List.map_cons, List.cons.injEq] at h
    have e : a.k = mkey b := congrArg Prod.fst h.1
    refine ⟨fun f hf => ?_, Same11.rise h.2 (fun e he => hok e (List.mem_cons_of_mem _ he)) hr.2⟩
    have hm : kv f ∈ M.map mkv := by rw [← h.2]; exact List.mem_map_of_mem hf
    obtain ⟨g, hg, e2⟩ := List.mem_map.1 hm
    have e3 : f.k = mkey g := (congrArg Prod.fst e2).symm
    rw [e, e3]
    unfold mkey
    rw [blt_mkb (hok b (List.mem_cons_self ..)).1 (hok g (List.mem_cons_of_mem _ hg)).1]
    exact decide_eq_true (hr.1 g hg)
theorem mrise_at : ∀ {M : List ME}, MRise M → ∀ i j (hi : i < M.length) (hj : j < M.length), i < j → mcmp M[i] M[j] < 0
  | [], _, i, _, hi, _, _ => absurd hi (Nat.not_lt_zero _)
  | e :: R, hs, 0, j + 1, _, hj, _ => hs.1 _ (List.getElem_mem (by simpa using hj))
  | e :: R, hs, i + 1, j + 1, hi, hj, h => mrise_at hs.2 i j (by simpa using hi) (by simpa using hj) (by omega)
theorem mcut_below (k : ByteArray) : ∀ (M : List ME) (j : Nat) (hj : j < M.length), j < mcut k M → blt (mkey M[j]) k = true
  | [], j, hj, _ => absurd hj (Nat.not_lt_zero _)
  | e :: R, j, hj, hc => by
    unfold mcut at hc
    by_cases h : blt (mkey e) k = true
    · rw [if_pos h] at hc
      cases j with
      | zero => exact h
      | succ j => exact mcut_below k R j (by simpa using hj) (by omega)
    · rw [if_neg h] at hc; omega
theorem mcut_at (k : ByteArray) : ∀ (M : List ME) (hc : mcut k M < M.length), blt (mkey M[mcut k M]) k = false
  | [], h => absurd h (Nat.not_lt_zero _)
  | e :: R, hc => by
    by_cases h : blt (mkey e) k = true
    · have e1 : mcut k (e :: R) = mcut k R + 1 := by rw [mcut, if_pos h]
      have h2 : mcut k R < R.length := by rw [e1, List.length_cons] at hc; omega
      have := mcut_at k R h2
      simp only [e1, List.getElem_cons_succ]
      exact this
    · have e1 : mcut k (e :: R) = 0 := by rw [mcut, if_neg h]
      simp only [e1, List.getElem_cons_zero]
      simpa using h
theorem kcmp_lt {u v : ByteArray} {s k t l : Int} : kcmp u s k v t l < 0 ↔ Lib.compareBytes u.data.toList v.data.toList < 0 ∨ (u = v ∧ (t < s ∨ (s = t ∧ l < k))) := by
  unfold kcmp or3 icmp
  have q := bo_eq u.data.toList v.data.toList
  generalize hc : Lib.compareBytes u.data.toList v.data.toList = c at q ⊢
  by_cases e : c = 0
  · have e2 := bo_ext (q.1 e)
    rw [if_neg (by omega)]
    constructor
    · intro h
      refine .inr ⟨e2, ?_⟩
      (repeat' split at h) <;> omega
    · rintro (h | ⟨_, h | ⟨h1, h2⟩⟩)
      · omega
      · rw [if_pos h]; simp
      · subst h1
        rw [if_neg (Int.lt_irrefl _), if_neg (Int.lt_irrefl _), if_pos h2]; simp
  · rw [if_pos e]
    constructor
    · exact .inl
    · rintro (h | ⟨h, _⟩)
      · exact h
      · exact absurd (q.2 (by rw [h])) e
theorem mcmp_trans {a b c : ME} (h1 : mcmp a b < 0) (h2 : mcmp b c < 0) : mcmp a c < 0 := by
  unfold mcmp at *
  rw [kcmp_lt] at *
  have t1 := bo_trans a.u.data.toList b.u.data.toList c.u.data.toList
  rcases h1 with h1 | ⟨e1, h1⟩
  · rcases h2 with h2 | ⟨e2, h2⟩
    · exact .inl (t1 h1 h2)
    · rw [← e2]; exact .inl h1
  · rcases h2 with h2 | ⟨e2, h2⟩
    · rw [e1]; exact .inl h2
    · exact .inr ⟨e1.trans e2, by omega⟩
theorem mcmp_anti (a b : ME) : mcmp b a = - mcmp a b := kcmp_anti _ _ _ _ _ _
theorem mrise_append : ∀ {A R : List ME}, MRise A → MRise R → (∀ a ∈ A, ∀ b ∈ R, mcmp a b < 0) → MRise (A ++ R)
  | [], R, _, hR, _ => hR
  | a :: A, R, hA, hR, h => ⟨fun f hf => (List.mem_append.1 hf).elim (hA.1 f) (h a (List.mem_cons_self ..) f), mrise_append hA.2 hR fun x hx => h x (List.mem_cons_of_mem _ hx)⟩
theorem mrise_of : ∀ {M : List ME}, (∀ i j (hi : i < M.length) (hj : j < M.length), i < j → mcmp M[i] M[j] < 0) → MRise M
  | [], _ => trivial
  | e :: R, h => ⟨fun f hf => by
      obtain ⟨j, hj, rfl⟩ := List.getElem_of_mem hf
      exact h 0 (j + 1) (by simp) (by simpa using hj) (by omega), mrise_of fun i j hi hj hij => h (i + 1) (j + 1) (by simpa using hi) (by simpa using hj) (by omega)⟩
/-- a table's entries, and the number of the last op -/
structure MInv (M : List ME) (last : Int) : Prop where
  ok : ∀ e ∈ M, MOk e
  rise : MRise M
  top : ∀ e ∈ M, e.s ≤ last
  low : -1 ≤ last
  high : last ≤ 1099511627776
theorem MInv.nil : MInv [] (-1) := ⟨fun _ h => (by cases h), trivial, fun _ h => (by cases h), Int.le_refl _, by decide⟩
def mput (M : List ME) (e : ME) : List ME := M.take (mcut (mkey e) M) ++ e :: M.drop (mcut (mkey e) M)
theorem mput_len (M : List ME) (e : ME) : (mput M e).length = M.length + 1 := by
  have := mcut_le (mkey e) M
  unfold mput
  simp only [List.length_append, List.length_cons, List.length_take, List.length_drop]; omega
theorem mput_mem {M : List ME} {e x : ME} : x ∈ mput M e ↔ x = e ∨ x ∈ M := by
  unfold mput
  have h2 : x ∈ M ↔ x ∈ M.take (mcut (mkey e) M) ∨ x ∈ M.drop (mcut (mkey e) M) := by rw [← List.mem_append, List.take_append_drop]
  rw [List.mem_append, List.mem_cons, h2]
  constructor
  · rintro (h | h | h)
    · exact .inr (.inl h)
    · exact .inl h
    · exact .inr (.inr h)
  · rintro (h | h | h)
    · exact .inr (.inl h)
    · exact .inl h
    · exact .inr (.inr h)
/-- of a new key: what stands ahead of it, what behind -/
theorem fresh_ne {M : List ME} {last : Int} (h : MInv M last) {e : ME} (he : MOk e) (hs : last < e.s) : ∀ j (hj : j < M.length), mcmp M[j] e ≠ 0 := fun j hj hz => by
  have h1 := (kcmp_same0 hz).2.1
  have h2 := h.top _ (List.getElem_mem hj)
  omega
theorem fresh_low {M : List ME} {last : Int} (h : MInv M last) {e : ME} (he : MOk e) (j : Nat) (hj : j < M.length) (hc : j < mcut (mkey e) M) : mcmp M[j] e < 0 := by
  have h0 := mcut_below (mkey e) M j hj hc
  have hb : blt (mkey M[j]) (mkey e) = decide (mcmp M[j] e < 0) := blt_mkb (h.ok _ (List.getElem_mem hj)).1 he.1
  rw [hb] at h0
  exact of_decide_eq_true h0
theorem fresh_high {M : List ME} {last : Int} (h : MInv M last) {e : ME} (he : MOk e) (hs : last < e.s) (j : Nat) (hj : j < M.length) (hc : mcut (mkey e) M ≤ j) : mcmp e M[j] < 0 := by
  have hcl : mcut (mkey e) M < M.length := by omega
  have h0 := mcut_at (mkey e) M hcl
  have h1 : ¬ mcmp M[mcut (mkey e) M] e < 0 := by
    have hb : blt (mkey M[mcut (mkey e) M]) (mkey e) = decide (mcmp M[mcut (mkey e) M] e < 0) := blt_mkb (h.ok _ (List.getElem_mem hcl)).1 he.1
    rw [hb] at h0
    exact of_decide_eq_false h0
  have h2 := fresh_ne h he hs _ hcl
  have h3 := mcmp_anti M[mcut (mkey e) M] e
  have h4 : mcmp e M[mcut (mkey e) M] < 0 := by omega
  rcases Nat.lt_or_ge (mcut (mkey e) M) j with hlt | hge
  · exact mcmp_trans h4 (mrise_at h.rise _ _ hcl hj hlt)
  · have e1 : mcut (mkey e) M = j := by omega
    simp only [e1] at h4; exact h4
theorem MInv.put {M : List ME} {last : Int} (h : MInv M last) {e : ME} (he : MOk e) (hs : last < e.s) : MInv (mput M e) e.s := by
  have hr := right_facts he.1
  refine ⟨fun x hx => ?_, ?_, fun x hx => ?_, by omega, by omega⟩
  · rcases mput_mem.1 hx with rfl | hx
    · exact he
    · exact h.ok x hx
  · have hc := mcut_le (mkey e) M
    refine mrise_append ?_ ⟨?_, ?_⟩ ?_
    · exact mrise_of fun i j hi hj hij => by
        rw [List.length_take] at hi hj
        rw [List.getElem_take, List.getElem_take]
        exact mrise_at h.rise i j (by omega) (by omega) hij
    · intro f hf
      obtain ⟨j, hj, rfl⟩ := List.getElem_of_mem hf
      rw [List.length_drop] at hj
      rw [List.getElem_drop]
      exact fresh_high h he hs _ (by omega) (by omega)
    · exact mrise_of fun i j hi hj hij => by
        rw [List.length_drop] at hi hj
        rw [List.getElem_drop, List.getElem_drop]
        exact mrise_at h.rise _ _ (by omega) (by omega) (by omega)
    · intro a ha b hb
      obtain ⟨i, hi, rfl⟩ := List.getElem_of_mem ha
      rw [List.length_take] at hi
      rw [List.getElem_take]
      have h1 := fresh_low h he i (by omega) (by omega)
      rcases List.mem_cons.1 hb with rfl | hb
      · exact h1
      · obtain ⟨j, hj, rfl⟩ := List.getElem_of_mem hb
        rw [List.length_drop] at hj
        rw [List.getElem_drop]
        exact mrise_at h.rise _ _ (by omega) (by omega) (by omega)
  · rcases mput_mem.1 hx with rfl | hx
    · exact Int.le_refl _
    · have := h.top x hx; omega
/-- the list's put of a new key -/
theorem Same11.put {L : List (E3 ByteArray ByteArray)} {M : List ME} {last : Int} (h : Same11 L M) (hi : MInv M last) {e : ME} (he : MOk e) (hs : last < e.s) (ht : Nat) : Same11 (putE blt L (mkey e) e.v ht) (mput M e) := by
  have hcut := h.cut (mkey e)
  have hno : hasE L (cutE blt (mkey e) L) (mkey e) = false := by
    cases hb : hasE L (cutE blt (mkey e) L) (mkey e) with
    | false => rfl
    | true =>
      obtain ⟨hc, hk⟩ := hasE_true.1 hb
      have hc2 : cutE blt (mkey e) L < M.length := by rw [← h.len]; exact hc
      rw [(h.at _ hc hc2).1] at hk
      obtain ⟨_, e2, _⟩ := mkb_inj (hi.ok _ (List.getElem_mem hc2)).1 he.1 hk
      have := hi.top _ (List.getElem_mem hc2)
      omega
  have hpe : putE blt L (mkey e) e.v ht = L.take (cutE blt (mkey e) L) ++ ⟨mkey e, e.v, ht⟩ :: L.drop (cutE blt (mkey e) L) := if_neg (by rw [hno]; simp)
  rw [hpe, hcut]
  unfold Same11 mput
  unfold Same11 at h
  rw [List.map_append, List.map_append, List.map_cons, List.map_cons, List.map_take, List.map_take, List.map_drop, List.map_drop, h]
  rfl
/-- how many bytes -/
def msz (M : List ME) : Nat := (M.map fun e => (mkey e).size + e.v.size).sum
theorem msz_put (M : List ME) (e : ME) : msz (mput M e) = msz M + (mkey e).size + e.v.size := by
  have h : msz M = msz (M.take (mcut (mkey e) M)) + msz (M.drop (mcut (mkey e) M)) := by
    unfold msz
    rw [← List.sum_append_nat, ← List.map_append, List.take_append_drop]
  rw [h]
  unfold mput msz
  rw [List.map_append, List.map_cons, List.sum_append_nat, List.sum_cons]
  omega
theorem esc_len (l : List UInt8) : (esc l).length ≤ 2 * l.length := esc_le l
theorem mkey_size (e : ME) : (mkey e).size = (keyBytes e.u.data.toList e.s e.k).length := by
  unfold mkey
  rw [← length_data, mkb_list]
theorem mkey_small {e : ME} (h : MOk e) : (mkey e).size ≤ 137 := by
  have h1 := right_facts h.1
  rw [mkey_size]
  unfold keyBytes six
  have := esc_le e.u.data.toList
  have hd := length_data e.u
  simp only [List.length_append, List.length_cons, List.length_nil]
  omega
theorem msz_small {M : List ME} (h : ∀ e ∈ M, MOk e) : msz M ≤ M.length * 4233 := by
  induction M with
  | nil => exact Nat.le_refl _
  | cons e R ih =>
    have h1 := mkey_small (h e (List.mem_cons_self ..))
    have h2 := (h e (List.mem_cons_self ..)).2
    have h3 := ih fun x hx => h x (List.mem_cons_of_mem _ hx)
    unfold msz at h3 ⊢
    rw [List.map_cons, List.sum_cons, List.length_cons]
    omega
/-- what a user's key has at a number: its place -/
def mhit (u : ByteArray) (at' : Int) (e : ME) : Bool := decide (e.u = u) && decide (e.s ≤ at')
def mget (u : ByteArray) (at' : Int) : List ME → Nat
  | [] => 0
  | e :: R => if mhit u at' e = true then 0 else mget u at' R + 1
theorem mget_le (u : ByteArray) (at' : Int) : ∀ M : List ME, mget u at' M ≤ M.length
  | [] => Nat.le_refl _
  | e :: R => by have := mget_le u at' R; unfold mget; split <;> simp only [List.length_cons] <;> omega
theorem mget_before (u : ByteArray) (at' : Int) : ∀ (M : List ME) (j : Nat) (hj : j < M.length), j < mget u at' M → mhit u at' M[j] = false
  | [], j, hj, _ => absurd hj (Nat.not_lt_zero _)
  | e :: R, j, hj, hc => by
    unfold mget at hc
    by_cases h : mhit u at' e = true
    · rw [if_pos h] at hc; omega
    · rw [if_neg h] at hc
      cases j with
      | zero => simpa using h
      | succ j => exact mget_before u at' R j (by simpa using hj) (by omega)
theorem mget_hit (u : ByteArray) (at' : Int) : ∀ (M : List ME) (hc : mget u at' M < M.length), mhit u at' M[mget u at' M] = true
  | [], h => absurd h (Nat.not_lt_zero _)
  | e :: R, hc => by
    by_cases h : mhit u at' e = true
    · have e1 : mget u at' (e :: R) = 0 := by rw [mget, if_pos h]
      simp only [e1, List.getElem_cons_zero]; exact h
    · have e1 : mget u at' (e :: R) = mget u at' R + 1 := by rw [mget, if_neg h]
      have h2 : mget u at' R < R.length := by rw [e1, List.length_cons] at hc; omega
      simp only [e1, List.getElem_cons_succ]
      exact mget_hit u at' R h2
theorem mget_is {u : ByteArray} {at' : Int} {M : List ME} {i : Nat} (h1 : ∀ j (hj : j < M.length), j < i → mhit u at' M[j] = false) (hi : i ≤ M.length) (h2 : ∀ h : i < M.length, mhit u at' M[i] = true) : mget u at' M = i := by
  have hle := mget_le u at' M
  rcases Nat.lt_trichotomy (mget u at' M) i with h | h | h
  · have := mget_hit u at' M (by omega)
    rw [h1 _ (by omega) h] at this; cases this
  · exact h
  · have := mget_before u at' M i (by omega) h
    rw [h2 (by omega)] at this; cases this
theorem mhit_iff {u : ByteArray} {at' : Int} {e : ME} : mhit u at' e = true ↔ e.u = u ∧ e.s ≤ at' := by unfold mhit; simp
theorem mhit_not {u : ByteArray} {at' : Int} {e : ME} (h : ¬ (e.u = u ∧ e.s ≤ at')) : mhit u at' e = false := by
  cases hb : mhit u at' e with
  | false => rfl
  | true => exact absurd (mhit_iff.1 hb) h
/-- what the list's ceiling tells -/
theorem seek_low {u v : ByteArray} {s k t : Int} (hk : k ≤ 3) : kcmp v s k u t 3 < 0 ↔ Lib.compareBytes v.data.toList u.data.toList < 0 ∨ (v = u ∧ t < s) := by
  rw [kcmp_lt]
  constructor
  · rintro (h | ⟨h1, h2⟩)
    · exact .inl h
    · exact .inr ⟨h1, by omega⟩
  · rintro (h | ⟨h1, h2⟩)
    · exact .inl h
    · exact .inr ⟨h1, .inl h2⟩
theorem seek_mget {M : List ME} {last : Int} (h : MInv M last) {u : ByteArray} {at' : Int} (hr : keyRight u (min at' 1099511627776) 3 = true) :
    (∀ hc : mcut (mkb u (min at' 1099511627776) 3) M < M.length, M[mcut (mkb u (min at' 1099511627776) 3) M].u = u → mget u at' M = mcut (mkb u (min at' 1099511627776) 3) M) ∧
    ((mcut (mkb u (min at' 1099511627776) 3) M = M.length ∨ ∃ hc : mcut (mkb u (min at' 1099511627776) 3) M < M.length, M[mcut (mkb u (min at' 1099511627776) 3) M].u ≠ u) → mget u at' M = M.length) := by
  generalize hcd : mcut (mkb u (min at' 1099511627776) 3) M = c
  have hlow : ∀ j (hj : j < M.length), j < c → mhit u at' M[j] = false := fun j hj hjc => by
    have h1 := mcut_below (mkb u (min at' 1099511627776) 3) M j hj (by rw [hcd]; exact hjc)
    have hok := (h.ok _ (List.getElem_mem hj)).1
    have hf := right_facts hok
    unfold mkey at h1
    rw [blt_mkb hok hr] at h1
    have h2 := (seek_low hf.2.2.2.2.2).1 (of_decide_eq_true h1)
    refine mhit_not ?_
    rintro ⟨e1, e2⟩
    rcases h2 with h2 | ⟨_, h2⟩
    · rw [e1, (bo_eq _ _).2 rfl] at h2; omega
    · omega
  have hcut : ∀ hc : c < M.length, ¬ (Lib.compareBytes M[c].u.data.toList u.data.toList < 0) ∧ (M[c].u = u → M[c].s ≤ at') := fun hc => by
    subst hcd
    have h1 := mcut_at (mkb u (min at' 1099511627776) 3) M hc
    have hok := (h.ok _ (List.getElem_mem hc)).1
    have hf := right_facts hok
    unfold mkey at h1
    rw [blt_mkb hok hr] at h1
    have h2 := of_decide_eq_false h1
    rw [seek_low hf.2.2.2.2.2] at h2
    refine ⟨fun h3 => h2 (.inl h3), fun h3 => ?_⟩
    have h4 : ¬ min at' 1099511627776 < M[mcut (mkb u (min at' 1099511627776) 3) M].s := fun h4 => h2 (.inr ⟨h3, h4⟩)
    omega
  have hle : c ≤ M.length := by rw [← hcd]; exact mcut_le _ _
  constructor
  · intro hc he
    exact mget_is hlow hle fun _ => mhit_iff.2 ⟨he, (hcut hc).2 he⟩
  · intro hor
    refine mget_is (fun j hj _ => ?_) (Nat.le_refl _) (fun h => absurd h (Nat.lt_irrefl _))
    rcases Nat.lt_or_ge j c with hjc | hjc
    · exact hlow j hj hjc
    · refine mhit_not ?_
      rintro ⟨e1, e2⟩
      rcases hor with hor | ⟨hc, hne⟩
      · omega
      · have h1 := (hcut hc).1
        rcases Nat.lt_or_ge c j with hlt | hge
        · have h2 := mrise_at h.rise c j hc hj hlt
          unfold mcmp kcmp or3 at h2
          rw [e1] at h2
          have h3 : Lib.compareBytes M[c].u.data.toList u.data.toList ≠ 0 := fun e => hne (bo_ext ((bo_eq _ _).1 e))
          rw [if_pos h3] at h2
          exact h1 h2
        · have : j = c := by omega
          subst this; exact hne e1
/-- a key that cannot be sought stands for nothing -/
theorem seek_bad {M : List ME} {last : Int} (h : MInv M last) {u : ByteArray} {at' : Int} (hr : keyRight u (min at' 1099511627776) 3 = false) : mget u at' M = M.length := by
  refine mget_is (fun j hj _ => mhit_not ?_) (Nat.le_refl _) (fun h => absurd h (Nat.lt_irrefl _))
  rintro ⟨e1, e2⟩
  have hf := right_facts (h.ok _ (List.getElem_mem hj)).1
  rw [e1] at hf
  have : keyRight u (min at' 1099511627776) 3 = true := by
    unfold keyRight
    exact decide_eq_true ⟨hf.1, hf.2.1, by omega, by omega, by omega, by omega⟩
  rw [hr] at this; cases this
end Go.Proofs.Ytcbkjhbneigkaaa
