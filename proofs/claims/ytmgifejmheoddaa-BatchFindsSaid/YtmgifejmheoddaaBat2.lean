/- batch.Batch.Bytes: its contract. -/
import Derived.Test.YtmgifejmheoddaaBat1
import Derived.Test.YtmgifejmheoddaaWrMore
import Derived.Test.YtmgifejmheoddaaRdMore
import Derived.Deep.RegionHeld3
import Derived.Deep.Cut
namespace Go.Proofs.Ytmgifejmheoddaa
open Go.RowKit
set_option linter.unusedVariables false
set_option linter.unusedSimpArgs false

/-- the bytes of an op, of a batch -/
def opB (x : OpD) : List UInt8 := UInt8.ofNat (x.kind % 256).toNat :: (num x.key.size ++ x.key.data.toList) ++ (if x.kind = 1 then num x.val.size ++ x.val.data.toList else [])
def opsB (l : List OpD) : List UInt8 := l.flatMap opB
def batB (seq : Int) (l : List OpD) : List UInt8 := num seq.toNat ++ num l.length ++ opsB l
theorem opsB_snoc (L : List OpD) (k : Nat) (h : k < L.length) : opsB (L.take (k + 1)) = opsB (L.take k) ++ opB L[k] := by
  unfold opsB; rw [List.take_succ_eq_append_getElem h, List.flatMap_append]; simp only [List.flatMap_cons, List.flatMap_nil, List.append_nil]
theorem dataLen (u : ByteArray) : u.data.toList.length = u.size := by rw [Array.length_toList]; rfl
theorem opB_len {x : OpD} (h : opRight x = true) : (opB x).length ≤ 4200 := by
  unfold opRight at h
  simp only [decide_eq_true_eq] at h
  have h9 := num_len9 (n := x.key.size) (by omega)
  have h8 := num_len9 (n := x.val.size) (by omega)
  have e1 := dataLen x.key
  have e2 := dataLen x.val
  unfold opB
  by_cases hk : x.kind = 1
  · rw [if_pos hk]; simp only [List.length_cons, List.length_append]; omega
  · rw [if_neg hk]; simp only [List.length_cons, List.length_append, List.length_nil]; omega
theorem opsB_len (L : List OpD) (hx : ∀ x ∈ L, opRight x = true) : ∀ (k : Nat), k ≤ L.length → (opsB (L.take k)).length ≤ 4200 * k
  | 0, _ => by simp [opsB]
  | k + 1, h => by
    have ih := opsB_len L hx k (by omega)
    have h9 := opB_len (hx _ (List.getElem_mem (show k < L.length by omega)))
    rw [opsB_snoc L k h]
    simp only [List.length_append]
    omega
theorem batRight_all {seq : Int} {l : List OpD} (h : batRight seq l = true) : (∀ x ∈ l, opRight x = true) ∧ 1 ≤ l.length ∧ l.length ≤ 64 ∧ 0 ≤ seq ∧ seq ≤ 1099511627776 - l.length := by
  unfold batRight at h
  rw [Bool.and_eq_true, decide_eq_true_eq] at h
  obtain ⟨h1, h2⟩ := h
  refine ⟨fun x hx => ?_, h1⟩
  have h3 : l.any (fun x => !opRight x) = false := by simpa using h2
  rw [List.any_eq_false] at h3
  simpa using h3 x hx

theorem rb_bytesRow (w : World) (u : ByteArray) (cap : Nat) (e : TypeId) (fr : Nat × Nat) (hc : u.size ≤ cap) : RB (w.alloc (.cells (bytesRow u cap) e fr)) (.slice (some ⟨w.heap.size, 0, none⟩) u.size cap) u.data.toList := by
  have hl := dataLen u
  refine ⟨_, cap, by rw [hl], by rw [hl]; exact hc, fun _ => ⟨_, 0, rfl, fun j hj => ?_⟩⟩
  rw [hl] at hj
  have hh : (w.alloc (.cells (bytesRow u cap) e fr)).heap[w.heap.size]? = some (.cells (bytesRow u cap) e fr) := heap_alloc_new w _
  rw [Nat.zero_add, cell_of_row _ _ _ _ _ _ hh]
  unfold bytesRow
  have hj' : j < u.data.size := hj
  rw [Array.getElem?_append_left (by simpa using hj')]
  rw [Array.getElem?_map, Array.getElem?_eq_getElem hj']
  simp [bv]

theorem WR.alloc {w : World} {p B : Nat} {v : Value} {l : List UInt8} {bad : Bool} (h : WR w p B v l bad) (o : Obj) : WR (w.alloc o) p B v l bad := h.below ((Below.refl _ w).alloc (Nat.le_refl _) o)
theorem WR.drew {w : World} {p B : Nat} {v : Value} {l : List UInt8} {bad : Bool} (h : WR w p B v l bad) : WR w.drew p B v l bad := h

/-- Text of a string's bytes, made just before -/
theorem wtextA {w : World} {p : Nat} {v : Value} {l : List UInt8} (h : WR w p p v l false) (u : ByteArray) (hu : u.size ≤ 5000) (hl : l.length ≤ 400000) (hz : p ≤ w.heap.size) (cap : Nat) (fr : Nat × Nat) (hc : u.size ≤ cap) :
    Calls Try.prog 31 #[.pointer (some ⟨p, 0, none⟩), .slice (some ⟨w.heap.size, 0, none⟩) u.size cap] (w.alloc (.cells (bytesRow u cap) 5 fr)).drew
      (WOut (w.alloc (.cells (bytesRow u cap) 5 fr)).drew p p v (l ++ num u.size ++ u.data.toList) false) := by
  have hdl := dataLen u
  have hr : RB (w.alloc (.cells (bytesRow u cap) 5 fr)).drew (.slice (some ⟨w.heap.size, 0, none⟩) u.data.toList.length cap) u.data.toList := by
    rw [hdl]; exact rb_bytesRow w u cap _ fr hc
  have := wtext (h.alloc (.cells (bytesRow u cap) 5 fr)).drew hr (fun _ k hk hf => by
    have hk : w.heap.size = k := by simpa [Value.ownBlock] using hk
    have := h.lt k hf
    omega) (by rw [hdl]; omega) (by simp; omega)
  rw [hdl] at this
  exact this
/-- .. and made a while before -/
theorem wtextB {w : World} {p g : Nat} {v : Value} {l : List UInt8} (h : WR w p p v l false) (u : ByteArray) (hu : u.size ≤ 5000) (hl : l.length ≤ 400000) (hz : p ≤ w.heap.size) (cap : Nat) (hr : RB w (.slice (some ⟨g, 0, none⟩) u.size cap) u.data.toList) (hg : ¬ fpW p v g) :
    Calls Try.prog 31 #[.pointer (some ⟨p, 0, none⟩), .slice (some ⟨g, 0, none⟩) u.size cap] w (WOut w p p v (l ++ num u.size ++ u.data.toList) false) := by
  have hdl := dataLen u
  rw [← hdl] at hr
  have := wtext h hr (fun _ k hk hf => by
    have hk : g = k := by simpa [Value.ownBlock] using hk
    subst hk; exact hg hf) (by rw [hdl]; omega) hz
  rw [hdl] at this
  exact this

theorem fp_next {w : World} {p q : Nat} {v v' : Value} (hl : Lies w v v') (hq : q < w.heap.size) (hn : ¬ fpW p v q) : ¬ fpW p v' q := fun hf => hn (fpW_lies hl q hq hf)
theorem blk_alloc {w : World} {q : Nat} {o : Obj} (h : w.heap[q]? = some o) (x : Obj) : (w.alloc x).heap[q]? = some o := blk_chg h (Chg.of_below (F := fun _ => False) ((Below.refl _ w).alloc (Nat.le_refl _) x)) (fun h => h)
theorem blk_allocD {w : World} {q : Nat} {o : Obj} (h : w.heap[q]? = some o) (x : Obj) : (w.alloc x).drew.heap[q]? = some o := blk_alloc h x
theorem blk_allocDD {w : World} {q : Nat} {o : Obj} (h : w.heap[q]? = some o) (x : Obj) : (w.alloc x).drew.drew.heap[q]? = some o := blk_alloc h x
theorem rb_bytesRowDD (w : World) (u : ByteArray) (cap : Nat) (e : TypeId) (fr : Nat × Nat) (hc : u.size ≤ cap) : RB (w.alloc (.cells (bytesRow u cap) e fr)).drew.drew (.slice (some ⟨w.heap.size, 0, none⟩) u.size cap) u.data.toList := rb_bytesRow w u cap e fr hc
theorem wrap_u8 (n : Int) : IntKind.u8.wrap n = n % 256 := by simp [IntKind.wrap, IntKind.bits, IntKind.signed]
theorem cells3_alloc {w : World} {q : Nat} {a b c : Value} {T : TypeId} (h : w.heap[q]? = some (.cells #[a, b, c] T (0, 0))) (x : Obj) : (w.alloc x).drew.cell? ⟨q, 0, none⟩ = some a ∧ (w.alloc x).drew.cell? ⟨q, 1, none⟩ = some b :=
  ⟨(cell_three (blk_alloc h x)).1, (cell_three (blk_alloc h x)).2.1⟩
set_option maxHeartbeats 1000000 in
theorem batbytes_bad {w : World} {a : Option Addr} {c : Nat} {l : List OpD} (h : OPs w a l) (hl : l.length ≤ maxLen) (seq : Int) (hr : batRight seq l = false) :
    Calls Try.prog 20 #[.agg #[.int .i64 seq, .slice a l.length c]] w fun e w' => e = .returned (.tuple #[.slice none 0 0, .int .i64 100]) ∧ Below w.heap.size w w' := by
  have H := Lib.hid h
  have Hr := Lib.hid hr
  clear h hr
  go_enter Try.func20, Try.ntmps20
  go_wp2_with fail; (with_reducible refine (batcheck (H.out.below ((Below.refl _ w).alloc (Nat.le_refl _) _)) hl seq 100 (by simp [Hr.out])).mono ?_); rintro e w1 ⟨rfl, hb1⟩
  go_wp2
  go_ret2
  exact ⟨rfl, ((Below.refl _ w).alloc (Nat.le_refl _) _).trans (hb1.mono (by simp))⟩

set_option maxRecDepth 100000 in
set_option maxHeartbeats 4000000 in
theorem batbytes {w : World} {a : Option Addr} {c : Nat} {l : List OpD} (h : OPs w a l) (hl : l.length ≤ maxLen) (seq : Int) (hr : batRight seq l = true) :
    Calls Try.prog 20 #[.agg #[.int .i64 seq, .slice a l.length c]] w (BytesOut w (batB seq l)) := by
  have H := Lib.hid h
  have Hr := Lib.hid hr
  obtain ⟨hall, h1, h2, h3, h4⟩ := batRight_all hr
  have Hall := Lib.hid hall
  clear h hr hall
  go_enter Try.func20, Try.ntmps20
  go_wp2_with fail; (with_reducible refine (batcheck (H.out.below ((Below.refl _ w).alloc (Nat.le_refl _) _)) hl seq 0 (by simp [Hr.out])).mono ?_); rintro e w1 ⟨rfl, hb1⟩
  have b1 : w1.heap[w.heap.size]? = some (.cells #[.int .i64 seq, .slice a l.length c] 24 (0, 0)) := by
    rw [hb1.block _ (by simp)]; exact heap_alloc_new w _
  obtain ⟨q0, q1, _⟩ := cell_two b1
  have B1 : Below w.heap.size w w1 := ((Below.refl _ w).alloc (Nat.le_refl _) _).trans (hb1.mono (by simp))
  have hz1 : w.heap.size < w1.heap.size := blk_lt b1
  obtain ⟨sq, hsq⟩ := Int.eq_ofNat_of_zero_le h3
  subst hsq
  clear hb1 b1
  go_upto_region 5 with fail
  refine gen_wp (fun w' => w'.cell? ⟨w.heap.size, 0, none⟩ = some (.int .i64 sq) ∧ w'.cell? ⟨w.heap.size, 1, none⟩ = some (.slice a l.length c) ∧ WR w' w1.heap.size w1.heap.size (.slice none 0 0) [] false ∧ w1.heap.size ≤ w'.heap.size ∧ Below w.heap.size w w') ?_ ?_
  · refine ⟨?_, ?_, ⟨heap_alloc_new w1 _, OB.nil _ _, by simp [Value.ownBlock]⟩, by simp, B1.alloc B1.size _⟩
    all_goals go_simp
  rintro w2 ⟨q0, q1, hw2, hz2, B2⟩
  generalize hp : w1.heap.size = p at *
  clear hp
  have HW2 : Hid (WR w2.drew p p (.slice none 0 0) [] false) := Lib.hid hw2
  clear hw2 B1
  have hn1 := wnumber HW2.out sq (by omega) (by decide) hz2
  have Hn1 := Lib.hid hn1
  have Hn2 : Hid (∀ (w3 : World) (v3 : Value), WR w3 p p v3 ([] ++ num sq) false → p ≤ w3.heap.size → Calls Try.prog 29 #[.pointer (some ⟨p, 0, none⟩), .int .i64 l.length] w3 (WOut w3 p p v3 ([] ++ num sq ++ num l.length) false)) :=
    Lib.hid fun w3 v3 h hz => wnumber h l.length (by omega) (by rw [List.nil_append]; have := num_len9 (n := sq) (by omega); omega) hz
  clear hn1
  go_region_held3 (fun w' => w'.cell? ⟨w.heap.size, 0, none⟩ = some (.int .i64 sq) ∧ w'.cell? ⟨w.heap.size, 1, none⟩ = some (.slice a l.length c)) (first | exact ⟨q0, q1⟩ | exact ⟨q0', q1'⟩ | exact ⟨q0'', q1''⟩) (first
    | (go_at_call 29; (with_reducible refine (Hn1.out).mono ?_); rintro e w3 ⟨rfl, v3, hw3, hc3, hl3⟩; have hb3 : Below p w2.drew w3 := hc3.below (fun k hk => HW2.out.ge (Nat.le_refl _) k hk) hz2; have q0' := (hb3.cell (p := ⟨w.heap.size, 0, none⟩) hz1).trans q0; have q1' := (hb3.cell (p := ⟨w.heap.size, 1, none⟩) hz1).trans q1; have HW3 := Lib.hid hw3; have hz3 := Nat.le_trans hz2 hb3.size; have B3 : Below w.heap.size w w3 := B2.drew.trans (hb3.mono (Nat.le_of_lt hz1)); clear hw3 hc3 hl3)
    | (go_at_call 29; (with_reducible refine (Hn2.out _ _ HW3.out hz3).mono ?_); rintro e w4 ⟨rfl, v4, hw4, hc4, hl4⟩; have hb4 : Below p w3 w4 := hc4.below (fun k hk => HW3.out.ge (Nat.le_refl _) k hk) hz3; have q0'' := (hb4.cell (p := ⟨w.heap.size, 0, none⟩) hz1).trans q0'; have q1'' := (hb4.cell (p := ⟨w.heap.size, 1, none⟩) hz1).trans q1'; have HW4 := Lib.hid hw4; have hz4 := Nat.le_trans hz3 hb4.size; have B4 : Below w.heap.size w w4 := B3.trans (hb4.mono (Nat.le_of_lt hz1)); clear hw4 hc4 hl4))
  clear q0 q1 q0' q1' hb3 hb4
  go_wp2
  go_loopw [23] (fun i wr => ∃ (k : Nat) (v' : Value), k ≤ l.length ∧ i = .int .i64 k ∧ WR wr p p v' (num sq ++ num l.length ++ opsB (l.take k)) false ∧ p ≤ wr.heap.size ∧ Below w.heap.size w wr) (fun i _ => l.length - (intOf i).toNat)
  case atStart => exact ⟨0, v4, Nat.zero_le _, rfl, by simpa [opsB] using HW4.out, hz4, B4⟩
  case round =>
    obtain ⟨k, v', hk, rfl, hw, hzp, hbr⟩ := hrel
    have HW := Lib.hid hw
    have hol := opsB_len l Hall.out k hk
    have hn1 := num_len9 (n := sq) (by omega)
    have hn2 := num_len9 (n := l.length) (by omega)
    have Hal : Hid ((num sq ++ num l.length ++ opsB (l.take k)).length ≤ 300000) := Lib.hid (by simp only [List.length_append]; omega)
    clear hw hn1 hn2 hol
    by_cases hlt : k < l.length
    · obtain ⟨b, off, rfl, d0, d1, d2⟩ := H.out.cells hbr k hlt
      have hxr := Hall.out _ (List.getElem_mem hlt)
      have Hsn := Lib.hid (opsB_snoc l k hlt)
      generalize hA : num sq ++ num l.length ++ opsB (l.take k) = A at *
      have HA := Lib.hid hA
      have Hal2 := Hal.out
      clear hA Hal
      generalize l[k] = x at *
      go_upto_region 9 with fail
      refine gen_wp (fun w' => w'.heap[wr.heap.size]? = some (.cells #[.int .i64 x.kind, .string x.key, .string x.val] 26 (0, 0)) ∧ wr.heap.size < w'.heap.size ∧ WR w' p p v' A false ∧ ¬ fpW p v' wr.heap.size ∧ Below w.heap.size w w') ?_ ?_
      · exact ⟨heap_alloc_new wr _, by simp, HW.out.below ((Below.refl _ wr).alloc (Nat.le_refl _) _), fun hf => by have := HW.out.lt _ hf; omega, hbr.alloc hbr.size _⟩
      rintro w5 ⟨hblk, hqz, hw5, hfp, B5⟩
      generalize wr.heap.size = q at *
      have HW5 := Lib.hid hw5
      have Hfp := Lib.hid hfp
      have Hblk := Lib.hid hblk
      obtain ⟨c0, c1, c2, _⟩ := cell_three hblk
      clear hw5 hfp d0 d1 d2 HW hblk
      have hz5 : p ≤ w5.heap.size := by omega
      have hxr' := hxr
      unfold opRight at hxr'
      simp only [decide_eq_true_eq] at hxr'
      obtain ⟨k1, k2, k3, k4, k5, k6⟩ := hxr'
      have hkey : x.key.size ≤ 5000 := by omega
      have hval : x.val.size ≤ 5000 := by omega
      have Hxr := Lib.hid hxr
      clear hxr k6
      obtain ⟨A2, hA2⟩ : ∃ A2, A ++ [UInt8.ofNat (x.kind % 256).toNat] = A2 := ⟨_, rfl⟩
      have hA2l : A2.length ≤ 300001 := by rw [← hA2, List.length_append]; simp only [List.length_cons, List.length_nil]; omega
      have Hby : Hid (Calls Try.prog 30 #[.pointer (some ⟨p, 0, none⟩), .int .u8 (IntKind.u8.wrap x.kind)] w5.drew (WOut w5.drew p p v' A2 false)) := Lib.hid (by
        have := wbyteN HW5.out.drew x.kind (by omega) hz5
        rw [hA2] at this
        rw [wrap_u8]
        exact this)
      have HbyB : Hid (∀ cap fr, Calls Try.prog 30 #[.pointer (some ⟨p, 0, none⟩), .int .u8 (IntKind.u8.wrap x.kind)] (w5.alloc (.cells (bytesRow x.key cap) 5 fr)).drew.drew (WOut (w5.alloc (.cells (bytesRow x.key cap) 5 fr)).drew.drew p p v' A2 false)) := Lib.hid fun cap fr => by
        have := wbyteN (HW5.out.alloc (.cells (bytesRow x.key cap) 5 fr)).drew.drew x.kind (by omega) (by simp; omega)
        rw [hA2] at this
        rw [wrap_u8]
        exact this
      have Hf5 : Hid (∀ q, fpW p v' q → q < w5.heap.size) := Lib.hid fun q hq => HW5.out.lt q hq
      have Hqz := Lib.hid hqz
      have HA2 := Lib.hid hA2
      have Hge := Lib.hid (fun k hk => HW5.out.ge (Nat.le_refl _) k hk)
      clear hA2
      have hconv := fun (w : World) => run_bytes_of_string (P := Try.prog) w 9 44 5 x.key Try.underlying9 Try.underlying44 Try.underlying5
      go_cut [] from 27 to 34 (fun wx => ∃ v7, wx.heap[q]? = some (.cells #[.int .i64 x.kind, .string x.key, .string x.val] 26 (0, 0)) ∧ WR wx p p v7 (A2 ++ num x.key.size ++ x.key.data.toList) false ∧ p ≤ wx.heap.size ∧ Below w.heap.size w wx)
      case first =>
        refine wp_region_noPanic ?_
        refine wp_region_held_drew (S := fun w' => w'.cell? ⟨q, 0, none⟩ = some (.int .i64 x.kind) ∧ w'.cell? ⟨q, 1, none⟩ = some (.string x.key)) (by kernel_rfl) ?_ (fun hHeld => ?_)
        · exact ⟨c0, c1⟩
        refine wpAnyH_take (i := 0) (v := ?_) rfl (by kernel_rfl) (by kernel_rfl) (by kernel_rfl) (fun _ _ _ h => h) (Or.inl ⟨by rfl, ?_⟩) (by assumption) ?_
        rotate_left
        · intro w hSw
          (try dsimp only at hSw)
          go_simp
          (try with_reducible rfl)
        (try simp only [Act.put, List.setIfInBounds_toArray, List.set_cons_zero, List.set_cons_succ])
        refine wpAnyH_take (i := 1) (v := ?_) rfl (by kernel_rfl) (by kernel_rfl) (by kernel_rfl) (fun _ _ _ h => h) (Or.inl ⟨by rfl, ?_⟩) (by assumption) ?_
        rotate_left
        · intro w hSw
          (try dsimp only at hSw)
          go_simp
          (try with_reducible rfl)
        (try simp only [Act.put, List.setIfInBounds_toArray, List.set_cons_zero, List.set_cons_succ])
        refine wpAnyH_take (i := 2) (v := ?_) rfl (by kernel_rfl) (by kernel_rfl) (by kernel_rfl) (fun _ _ _ h => h) (Or.inl ⟨by rfl, ?_⟩) (by assumption) ?_
        rotate_left
        · intro w hSw
          (try dsimp only at hSw)
          go_simp
          (try with_reducible rfl)
        (try simp only [Act.put, List.setIfInBounds_toArray, List.set_cons_zero, List.set_cons_succ])
        refine wpAnyH_take (i := 4) (v := ?_) rfl (by kernel_rfl) (by kernel_rfl) (by kernel_rfl) (fun _ _ _ h => h) (Or.inl ⟨by rfl, ?_⟩) (by assumption) ?_
        rotate_left
        · intro w hSw
          (try dsimp only at hSw)
          go_simp
          (try with_reducible rfl)
        (try simp only [Act.put, List.setIfInBounds_toArray, List.set_cons_zero, List.set_cons_succ])
        refine wpAnyH_take (i := 5) (v := ?_) rfl (by kernel_rfl) (by kernel_rfl) (by kernel_rfl) (fun _ _ _ h => h) (Or.inl ⟨by rfl, ?_⟩) (by assumption) ?_
        rotate_left
        · intro w hSw
          (try dsimp only at hSw)
          go_simp
          (try with_reducible rfl)
        (try simp only [Act.put, List.setIfInBounds_toArray, List.set_cons_zero, List.set_cons_succ])
        refine wpAnyH_ready (rs := [3, 6]) (by kernel_rfl) (by simp) ?_
        refine AllReadyH.cons rfl (fun K hK => ?_) ?_
        · go_simp
          (with_reducible refine (Hby.out).mono ?_)
          rintro e w6 ⟨rfl, v6, hw6, hc6, hl6⟩
          have hb6 := blk_chg (w := w5.drew) Hblk.out hc6 Hfp.out
          have hq6 := fp_next hl6 Hqz.out Hfp.out
          have hz6 := Nat.le_trans hz5 hc6.size
          have B6 := B5.drew.trans (hc6.below (fun k hk => Nat.le_trans (Nat.le_of_lt hz1) (Hge.out k hk)) B5.size)
          have HW6 := Lib.hid hw6
          have Hb6 := Lib.hid hb6
          have Hq6 := Lib.hid hq6
          have htx := wtextA HW6.out x.key hkey (by omega) hz6
          have Htx := Lib.hid htx
          clear hw6 hc6 hl6 hb6 hq6 htx
          go_wp2_with fail
          refine hK.out _ _ ?_ (fun hHeld => ?_)
          · exact ⟨(cell_three Hb6.out).1, (cell_three Hb6.out).2.1⟩
          clear hK K
          (try simp only [Act.put, List.setIfInBounds_toArray, List.set_cons_zero, List.set_cons_succ])
          refine wpAnyH_ready (rs := [6]) (by kernel_rfl) (by simp) ?_
          refine AllReadyH.cons rfl (fun K hK => ?_) ?_
          · go_simp
            refine hK.out _ _ ?_ (fun hHeld => ?_)
            · exact cells3_alloc Hb6.out _
            clear hK K
            (try simp only [Act.put, List.setIfInBounds_toArray, List.set_cons_zero, List.set_cons_succ])
            refine wpAnyH_ready (rs := [7]) (by kernel_rfl) (by simp) ?_
            refine AllReadyH.cons rfl (fun K hK => ?_) ?_
            · go_simp
              (with_reducible refine (Htx.out _ _ (grownCap_ge _ _ _ _)).mono ?_)
              rintro e w7 ⟨rfl, v7, hw7, hc7, hl7⟩
              have hb7 := blk_chg (blk_allocD Hb6.out _) hc7 Hq6.out
              have hz7 : p ≤ w7.heap.size := Nat.le_trans hz6 (Nat.le_trans (by simp) hc7.size)
              have B7 : Below w.heap.size w w7 := ((B6.alloc B6.size _).drew).trans (hc7.below (fun k hk => Nat.le_trans (Nat.le_of_lt hz1) (HW6.out.ge (Nat.le_refl _) k hk)) (Nat.le_trans B6.size (by simp)))
              have HW7 := Lib.hid hw7
              have Hb7 := Lib.hid hb7
              clear hw7 hc7 hl7 hb7
              go_wp2_with fail
              refine hK.out _ _ ?_ (fun hHeld => ?_)
              · exact ⟨(cell_three Hb7.out).1, (cell_three Hb7.out).2.1⟩
              clear hK K
              (try simp only [Act.put, List.setIfInBounds_toArray, List.set_cons_zero, List.set_cons_succ])
              refine wpAnyH_done (by kernel_rfl) ?_ _
              refine NoPanic.normal ?_
              go_wp2_with fail
              go_meet
              exact ⟨v7, Hb7.out, HW7.out, hz7, B7⟩
            · exact AllReadyH.nil
          · exact AllReadyH.nil
        refine AllReadyH.cons rfl (fun K hK => ?_) ?_
        · go_simp
          refine hK.out _ _ ?_ (fun hHeld => ?_)
          · exact cells3_alloc Hblk.out _
          clear hK K
          (try simp only [Act.put, List.setIfInBounds_toArray, List.set_cons_zero, List.set_cons_succ])
          refine wpAnyH_ready (rs := [3]) (by kernel_rfl) (by simp) ?_
          refine AllReadyH.cons rfl (fun K hK => ?_) ?_
          · go_simp
            (with_reducible refine (HbyB.out _ _).mono ?_)
            rintro e w6 ⟨rfl, v6, hw6, hc6, hl6⟩
            have hb6 := blk_chg (blk_allocDD Hblk.out _) hc6 Hfp.out
            have hq6 := fp_next hl6 (show q < _ from Nat.lt_trans Hqz.out (by simp)) Hfp.out
            have hz6 : p ≤ w6.heap.size := Nat.le_trans hz5 (Nat.le_trans (by simp) hc6.size)
            have B6 : Below w.heap.size w w6 := ((B5.alloc B5.size _).drew.drew).trans (hc6.below (fun k hk => Nat.le_trans (Nat.le_of_lt hz1) (Hge.out k hk)) (Nat.le_trans B5.size (by simp)))
            have hrow6 := RB.chg (rb_bytesRowDD w5 x.key _ _ _ (grownCap_ge w5.drew x.key.size 0 5)) hc6 (fun _ k hk hf => by
              have hk : w5.heap.size = k := by simpa [Value.ownBlock] using hk
              have := Hf5.out k hf
              omega)
            have hg6 := fp_next hl6 (show w5.heap.size < _ by simp) (fun hf => Nat.lt_irrefl _ (Hf5.out _ hf))
            have htx := wtextB hw6 x.key hkey (by omega) hz6 _ hrow6 hg6
            have HW6 := Lib.hid hw6
            have Hb6 := Lib.hid hb6
            have Hq6 := Lib.hid hq6
            have Htx := Lib.hid htx
            clear hw6 hc6 hl6 hb6 hq6 htx hrow6 hg6
            go_wp2_with fail
            refine hK.out _ _ ?_ (fun hHeld => ?_)
            · exact ⟨(cell_three Hb6.out).1, (cell_three Hb6.out).2.1⟩
            clear hK K
            (try simp only [Act.put, List.setIfInBounds_toArray, List.set_cons_zero, List.set_cons_succ])
            refine wpAnyH_ready (rs := [7]) (by kernel_rfl) (by simp) ?_
            refine AllReadyH.cons rfl (fun K hK => ?_) ?_
            · go_simp
              (with_reducible refine (Htx.out).mono ?_)
              rintro e w7 ⟨rfl, v7, hw7, hc7, hl7⟩
              have hb7 := blk_chg Hb6.out hc7 Hq6.out
              have hz7 : p ≤ w7.heap.size := Nat.le_trans hz6 hc7.size
              have B7 : Below w.heap.size w w7 := B6.trans (hc7.below (fun k hk => Nat.le_trans (Nat.le_of_lt hz1) (HW6.out.ge (Nat.le_refl _) k hk)) B6.size)
              have HW7 := Lib.hid hw7
              have Hb7 := Lib.hid hb7
              clear hw7 hc7 hl7 hb7
              go_wp2_with fail
              refine hK.out _ _ ?_ (fun hHeld => ?_)
              · exact ⟨(cell_three Hb7.out).1, (cell_three Hb7.out).2.1⟩
              clear hK K
              (try simp only [Act.put, List.setIfInBounds_toArray, List.set_cons_zero, List.set_cons_succ])
              refine wpAnyH_done (by kernel_rfl) ?_ _
              refine NoPanic.normal ?_
              go_wp2_with fail
              go_meet
              exact ⟨v7, Hb7.out, HW7.out, hz7, B7⟩
            · exact AllReadyH.nil
          · exact AllReadyH.nil
        · exact AllReadyH.nil
      case rest =>
        obtain ⟨v7, hb7, hw7, hz7, B7⟩ := hcut
        obtain ⟨c0, c1, c2, _⟩ := cell_three hb7
        have HW7 := Lib.hid hw7
        clear hw7 hb7 hconv
        have hdl := dataLen x.key
        have hA3 : Hid ((A2 ++ num x.key.size ++ x.key.data.toList).length ≤ 310000) := Lib.hid (by
          have h9 := num_len9 (n := x.key.size) (by omega)
          simp only [List.length_append]; omega)
        clear hdl
        by_cases hk1 : x.kind = 1
        · have Hop : Hid (A ++ opB x = A2 ++ num x.key.size ++ x.key.data.toList ++ num x.val.size ++ x.val.data.toList) := Lib.hid (by
            rw [← HA2.out]; unfold opB; rw [if_pos hk1]; simp)
          rw [hk1] at c0
          clear hk1
          have hconv := fun (w : World) => run_bytes_of_string (P := Try.prog) w 9 44 5 x.val Try.underlying9 Try.underlying44 Try.underlying5
          have htx := wtextA HW7.out x.val hval (by have := hA3.out; omega) hz7
          have Htx := Lib.hid htx
          clear htx
          go_wp2_with fail; (with_reducible refine (Htx.out _ _ (grownCap_ge _ _ _ _)).mono ?_); rintro e w8 ⟨rfl, v8, hw8, hc8, hl8⟩
          have hz8 : p ≤ w8.heap.size := Nat.le_trans hz7 (Nat.le_trans (by simp) hc8.size)
          have B8 : Below w.heap.size w w8 := ((B7.alloc B7.size _).drew).trans (hc8.below (fun k hk => Nat.le_trans (Nat.le_of_lt hz1) (HW7.out.ge (Nat.le_refl _) k hk)) (Nat.le_trans B7.size (by simp)))
          have HW8 := Lib.hid hw8
          clear hw8 hc8 hl8
          go_wp2
          go_roundw
          case rel => exact ⟨k + 1, v8, by omega, by go_num, by rw [Hsn.out, ← List.append_assoc, HA.out, Hop.out]; exact HW8.out, hz8, B8⟩
          case measure => simp [intOf]; omega
        · have Hop : Hid (A ++ opB x = A2 ++ num x.key.size ++ x.key.data.toList) := Lib.hid (by
            rw [← HA2.out]; unfold opB; rw [if_neg hk1]; simp)
          have hk2 : (x.kind == 1) = false := by rw [beq_eq_false_iff_ne]; exact hk1
          clear hk1
          go_wp2
          go_roundw
          case rel => exact ⟨k + 1, v7, by omega, by go_num, by rw [Hsn.out, ← List.append_assoc, HA.out, Hop.out]; exact HW7.out, hz7, B7⟩
          case measure => simp [intOf]; omega
    · have hkl : k = l.length := by omega
      subst hkl
      have Htk : Hid (l.take l.length = l) := Lib.hid (List.take_of_length_le (Nat.le_refl _))
      have hw := HW.out
      have hal := Hal.out
      rw [Htk.out] at hw hal
      obtain ⟨T, hT⟩ : ∃ T, num sq ++ num l.length ++ opsB l = T := ⟨_, rfl⟩
      rw [hT] at hw hal
      have HT : Hid (batB sq l = T) := Lib.hid (by unfold batB; rw [Int.toNat_natCast]; exact hT)
      clear hT
      have hby := wbytes hw (by omega)
      have Hby := Lib.hid hby
      clear hby hw hal
      go_wp2_with fail; (with_reducible refine (Hby.out).mono ?_); rintro e w9 ⟨v9, rfl, ho9, ⟨g, rfl⟩, hb9⟩
      have Ho9 := Lib.hid ho9
      clear ho9
      go_wp2
      go_ret2
      unfold BytesOut
      rw [HT.out]
      exact ⟨.slice (some ⟨g, 0, none⟩) T.length T.length, rfl, Ho9.out.mono hbr.size, ⟨g, rfl⟩, bnext hbr hb9⟩
end Go.Proofs.Ytmgifejmheoddaa
