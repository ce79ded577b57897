/- What WireBack writes: a Writer and the bytes that are wanted, side by side. -/
import Derived.Test.YtpdkekpdahefgaaAwake02
import Derived.Test.YtpdkekpdahefgaaRdText
import Derived.Test.YtpdkekpdahefgaaRef2
import Derived.Test.YtpdkekpdahefgaaItems
import Derived.Test.YtpdkekpdahefgaaLess
namespace Go.Proofs.Ytpdkekpdahefgaa
open Go.RowKit
set_option linter.unusedVariables false

/-- a Writer at block p, and vw that owns the same bytes apart from it -/
def WP (w : World) (p B : Nat) (v vw : Value) (l : List UInt8) (bad : Bool) : Prop :=
  WR w p B v l bad ∧ OB w B vw l ∧ ∀ q, vw.ownBlock = some q → ¬ fpW p v q

theorem WP.below {w w' : World} {p B : Nat} {v vw : Value} {l : List UInt8} {bad : Bool} (h : WP w p B v vw l bad) (hb : Below w.heap.size w w') : WP w' p B v vw l bad :=
  ⟨h.1.below hb, h.2.1.past hb (Nat.le_refl _), h.2.2⟩
theorem WP.want {w0 w1 : World} {p B : Nat} {v vw : Value} {l : List UInt8} {bad : Bool} (h : WP w0 p B v vw l bad) (hc : Chg (fpW p v) w0 w1) : OB w1 B vw l :=
  h.2.1.chg hc fun q hq => h.2.2 q hq
theorem WP.bad {w0 w1 : World} {p B : Nat} {v vw v1 : Value} {l : List UInt8} {bad bad' : Bool} (h : WP w0 p B v vw l bad) (h1 : WR w1 p B v1 l bad') (hc : Chg (fpW p v) w0 w1) (hl : Lies w0 v v1) : WP w1 p B v1 vw l bad' :=
  ⟨h1, h.want hc, fun q hq hf => h.2.2 q hq (fpW_lies hl q (h.2.1.lt hq).2 hf)⟩
theorem WP.step {w0 w1 w2 w3 : World} {p B : Nat} {v vw v1 v5 : Value} {l l' : List UInt8} {bad bad' : Bool} (h : WP w0 p B v vw l bad) (h1 : WR w1 p B v1 l' bad') (hc : Chg (fpW p v) w0 w1) (hl : Lies w0 v v1) (hb : Below w1.heap.size w1 w2)
    (ho : OB w3 B v5 l') (ha : App w2 w3 vw v5) (hB : B ≤ w0.heap.size) (hp : B ≤ p) : WP w3 p B v1 v5 l' bad' ∧ Below B w0 w3 := by
  have hq : ∀ q, vw.ownBlock = some q → ¬ fpW p v1 q := fun q hq hf => h.2.2 q hq (fpW_lies hl q (h.2.1.lt hq).2 hf)
  have h2 := h1.below hb
  have hz1 := hc.size
  have hz2 := hb.size
  refine ⟨⟨h2.chg (Chg.of_app ha) fun k hk e => hq k e hk, ho, Lies.apart ha.lies (fun k hk => h2.lt k hk) hq⟩, ?_⟩
  refine (hc.below (fun k hk => h.1.ge hp k hk) hB).trans ((hb.mono (by omega)).trans ((Chg.of_app ha).below (fun k hk => (h.2.1.lt hk).1) (by omega)))

theorem ITs.cellsV {w wr : World} {a : Option Addr} {l : List ItemD} (h : ITs w a l) (hb : Below w.heap.size w wr) (k : Nat) (hk : k < l.length) :
    ∃ b off ao cc, a = some ⟨b, off, none⟩ ∧ wr.cell? ⟨b, off + k * 3, none⟩ = some (.int .i64 l[k].kind) ∧ wr.cell? ⟨b, off + k * 3 + 1, none⟩ = some (.int .i64 l[k].n) ∧ wr.cell? ⟨b, off + k * 3 + 2, none⟩ = some (.slice ao l[k].b.length cc) ∧
      RB w (.slice ao l[k].b.length cc) l[k].b ∧ -9223372036854775808 ≤ l[k].n ∧ l[k].n ≤ 9223372036854775807 := by
  obtain ⟨b, off, rfl, hc⟩ := h.1 (by omega)
  obtain ⟨c0, c1, c2⟩ := hc k hk
  obtain ⟨hrb, q0, q1, q2, q3, q4⟩ := h.2 _ (List.getElem_mem hk)
  obtain ⟨ao, cc, hv, _⟩ := hrb.shape
  rw [hv] at c2 hrb
  exact ⟨b, off, ao, cc, rfl, cell_next c0 _ hb, cell_next c1 _ hb, cell_next c2 _ hb, hrb, q2, q3⟩

/-- the bytes of an Item -/
def itemB (x : ItemD) : List UInt8 :=
  if x.kind = 1 then (if x.n < 0 then [] else num x.n.toNat) else if x.kind = 2 then num x.b.length ++ x.b else if x.kind = 3 then x.b else if x.kind = 4 then [UInt8.ofNat (x.n % 256).toNat] else []
def itemsB (l : List ItemD) : List UInt8 := l.flatMap itemB
def itemBad (x : ItemD) : Bool := decide (x.kind = 1 ∧ x.n < 0)
theorem itemsB_snoc (L : List ItemD) (k : Nat) (h : k < L.length) : itemsB (L.take (k + 1)) = itemsB (L.take k) ++ itemB L[k] := by
  unfold itemsB; rw [List.take_succ_eq_append_getElem h, List.flatMap_append]; simp only [List.flatMap_cons, List.flatMap_nil, List.append_nil]
theorem itemsB_drop (L : List ItemD) (k : Nat) (h : k < L.length) : itemsB (L.drop k) = itemB L[k] ++ itemsB (L.drop (k + 1)) := by
  unfold itemsB; rw [List.drop_eq_getElem_cons h, List.flatMap_cons]
theorem itemB_len {x : ItemD} (hn : x.n ≤ 9223372036854775807) (hb : x.b.length ≤ 500) : (itemB x).length ≤ 509 := by
  unfold itemB
  have h9 := num_len9 (n := x.n.toNat) (by omega)
  have h8 := num_len9 (n := x.b.length) (by omega)
  by_cases e1 : x.kind = 1
  · rw [if_pos e1]
    by_cases e2 : x.n < 0
    · rw [if_pos e2]; simp
    · rw [if_neg e2]; omega
  · rw [if_neg e1]
    by_cases e2 : x.kind = 2
    · rw [if_pos e2, List.length_append]; omega
    · rw [if_neg e2]
      by_cases e3 : x.kind = 3
      · rw [if_pos e3]; omega
      · rw [if_neg e3]
        by_cases e4 : x.kind = 4
        · rw [if_pos e4]; simp
        · rw [if_neg e4]; simp
theorem itemsB_len (L : List ItemD) (hx : ∀ x ∈ L, x.n ≤ 9223372036854775807 ∧ x.b.length ≤ 500) : ∀ (k : Nat), k ≤ L.length → (itemsB (L.take k)).length ≤ 509 * k
  | 0, _ => by simp [itemsB]
  | k + 1, h => by
    have ih := itemsB_len L hx k (by omega)
    have h3 := hx _ (List.getElem_mem (show k < L.length by omega))
    have h9 := itemB_len h3.1 h3.2
    rw [itemsB_snoc L k h]
    simp only [List.length_append]
    omega
theorem smallB_all {l : List ItemD} (h : smallB l = true) : (∀ x ∈ l, x.b.length ≤ 500) ∧ l.length ≤ 60 := by
  unfold smallB at h
  rw [Bool.and_eq_true, List.all_eq_true] at h
  exact ⟨fun x hx => by simpa using h.1 x hx, by simpa using h.2⟩
theorem low_toNat (n : Int) : ((UInt8.ofNat (n % 256).toNat).toNat : Int) = n % 256 := by
  rw [toNat_ofNat8]; omega
theorem bvs_lowN (n : Int) : (#[.int .u8 (n % 256)] : Array Value) = (bvs [UInt8.ofNat (n % 256).toNat]).toArray := by
  simp only [bvs, bv, List.map_cons, List.map_nil, low_toNat]
theorem xor8 (y : UInt8) : Value.int .u8 (bits .xor .u8 (if IntKind.u8.signed = true then -1 else IntKind.u8.max) (y.toNat : Int)) = bv (UInt8.ofNat (255 - y.toNat)) := by
  have h : ∀ x : Fin 256, bits .xor .u8 (if IntKind.u8.signed = true then -1 else IntKind.u8.max) ((x.val : Nat) : Int) = ((255 - x.val : Nat) : Int) := by decide +kernel
  have h2 := h ⟨y.toNat, y.toNat_lt⟩
  have e : (UInt8.ofNat (255 - y.toNat)).toNat = 255 - y.toNat := by rw [toNat_ofNat8]; omega
  unfold bv
  rw [e]
  exact congrArg _ h2
theorem RD.drew {w : World} {p : Nat} {go : Option Nat} {l : List UInt8} {bad : Bool} (h : RD w p go l bad) : RD w.drew p go l bad := h
theorem wbyteN {w : World} {p B : Nat} {v : Value} {l : List UInt8} {bad : Bool} (h : WR w p B v l bad) (n : Int) (hlen : l.length + 1 ≤ 140737488355328) (hB : B ≤ w.heap.size) :
    Calls Try.prog 29 #[.pointer (some ⟨p, 0, none⟩), .int .u8 (n % 256)] w (WOut w p B v (l ++ [UInt8.ofNat (n % 256).toNat]) bad) := by
  have h2 := wbyte h (UInt8.ofNat (n % 256).toNat) hlen hB
  rw [low_toNat] at h2
  exact h2
theorem rbyteN {w : World} {p : Nat} {go : Option Nat} {n : Int} {l : List UInt8} (h : RD w p go (UInt8.ofNat (n % 256).toNat :: l) false) :
    Calls Try.prog 26 #[.pointer (some ⟨p, 0, none⟩)] w fun e w' => e = .returned (.int .u8 (n % 256)) ∧ RD w' p go l false ∧ w.grownBy w' (some p) := by
  refine (byte_ok h).mono ?_
  rintro e w' ⟨rfl, h1, h2⟩
  exact ⟨by rw [low_toNat], h1, h2⟩
end Go.Proofs.Ytpdkekpdahefgaa
