/- Scripts of chapter 07: how they are read; small. -/
import Derived.Test.YtijgbciaifdbeaaOpen
import Derived.Test.YtijgbciaifdbeaaZi
namespace Go.Proofs.Ytijgbciaifdbeaa
open Go.ChangeShapes Go.WideShapes Go.ChangeAt Go.RowKit Go.Joins Go.Deep
set_option linter.unusedVariables false
set_option linter.unusedSimpArgs false

structure ZO where
  kind : Int
  z : Int
  at' : Int
  n : Int
  da : Option Addr
  dc : Nat
  data : List UInt8
  ka : Option Addr
  kc : Nat
  keep : List Int
instance : Inhabited ZO := ⟨⟨0, 0, 0, 0, none, 0, [], none, 0, []⟩⟩
def i64b (x : Int) : Prop := -9223372036854775808 ≤ x ∧ x ≤ 9223372036854775807
structure ZOk (w : World) (x : ZO) : Prop where
  kb : i64b x.kind
  zb : i64b x.z
  ab : i64b x.at'
  nb : i64b x.n
  rb : RB w (.slice x.da x.data.length x.dc) x.data
  dl : x.data.length ≤ maxLen
  kz : KZ w x.ka x.keep
  kl : x.keep.length ≤ maxLen
theorem ZOk.below {w w' : World} {x : ZO} (h : ZOk w x) (hb : Below w.heap.size w w') : ZOk w' x := ⟨h.kb, h.zb, h.ab, h.nb, h.rb.below hb, h.dl, h.kz.below hb, h.kl⟩
def ZOs (w : World) (a : Option Addr) (l : List ZO) : Prop :=
  (0 < l.length → ∃ b off, a = some ⟨b, off, none⟩ ∧ ∀ i (h : i < l.length), w.cell? ⟨b, off + i * 6, none⟩ = some (.int .i64 l[i].kind) ∧ w.cell? ⟨b, off + i * 6 + 1, none⟩ = some (.int .i64 l[i].z) ∧ w.cell? ⟨b, off + i * 6 + 2, none⟩ = some (.int .i64 l[i].at') ∧ w.cell? ⟨b, off + i * 6 + 3, none⟩ = some (.int .i64 l[i].n) ∧
    w.cell? ⟨b, off + i * 6 + 4, none⟩ = some (.slice l[i].da l[i].data.length l[i].dc) ∧ w.cell? ⟨b, off + i * 6 + 5, none⟩ = some (.slice l[i].ka l[i].keep.length l[i].kc)) ∧ ∀ x ∈ l, ZOk w x
theorem ZOs.cells {w wr : World} {a : Option Addr} {l : List ZO} (h : ZOs w a l) (hb : Below w.heap.size w wr) (i : Nat) (hi : i < l.length) :
    ∃ b off, a = some ⟨b, off, none⟩ ∧ wr.cell? ⟨b, off + i * 6, none⟩ = some (.int .i64 l[i].kind) ∧ wr.cell? ⟨b, off + i * 6 + 1, none⟩ = some (.int .i64 l[i].z) ∧ wr.cell? ⟨b, off + i * 6 + 2, none⟩ = some (.int .i64 l[i].at') ∧ wr.cell? ⟨b, off + i * 6 + 3, none⟩ = some (.int .i64 l[i].n) ∧
    wr.cell? ⟨b, off + i * 6 + 4, none⟩ = some (.slice l[i].da l[i].data.length l[i].dc) ∧ wr.cell? ⟨b, off + i * 6 + 5, none⟩ = some (.slice l[i].ka l[i].keep.length l[i].kc) ∧ ZOk w l[i] := by
  obtain ⟨b, off, rfl, hc⟩ := h.1 (by omega)
  obtain ⟨c0, c1, c2, c3, c4, c5⟩ := hc i hi
  exact ⟨b, off, rfl, cell_next c0 _ hb, cell_next c1 _ hb, cell_next c2 _ hb, cell_next c3 _ hb, cell_next c4 _ hb, cell_next c5 _ hb, h.2 _ (List.getElem_mem hi)⟩
theorem ZOs.belowz {w w' : World} {a : Option Addr} {l : List ZO} (h : ZOs w a l) (hb : Below w.heap.size w w') : ZOs w' a l := by
  refine ⟨fun hl => ?_, fun x hx => (h.2 x hx).below hb⟩
  obtain ⟨b, off, e, hc⟩ := h.1 hl
  exact ⟨b, off, e, fun i hi => by
    obtain ⟨c0, c1, c2, c3, c4, c5⟩ := hc i hi
    exact ⟨cell_next c0 _ hb, cell_next c1 _ hb, cell_next c2 _ hb, cell_next c3 _ hb, cell_next c4 _ hb, cell_next c5 _ hb⟩⟩
section
variable {H : Type} {enc : TypeId × Value → H} {W : World} {spare : Nat → Bool} {held : Bool} {base : Nat}
theorem ints_val {n : Nat} {v : Value} {y : DataW H × List MemPlace} (h : DataW.trod enc Try.prog W base spare held n 38 [v] = some y) : ∃ a l c, v = .slice a (l : List Int).length c ∧ KZ W a l ∧ l.length ≤ maxLen := by
  have key : ∀ a len cap, v = .slice a len cap → ∃ a l c, v = .slice a (l : List Int).length c ∧ KZ W a l ∧ l.length ≤ maxLen := fun a len cap e => by
    subst e
    have h2 : DataW.Trod enc Try.prog W base spare held 38 (.slice a len cap) y.1 y.2 := ⟨n, by simpa [Value.cells] using h⟩
    obtain ⟨l, rfl, hr, hm⟩ := ints_open h2
    exact ⟨a, l, cap, rfl, hr.1, hm⟩
  rcases DataW.trod_slice Try.underlying38 h with ⟨h1, _⟩ | ⟨a, len, cap, elems, rest, m, _, h1, _⟩
  · simp only [List.cons.injEq, and_true] at h1
    exact key _ _ _ h1
  · simp only [List.cons.injEq, and_true] at h1
    exact key _ _ _ h1
theorem zops_open {a : Option Addr} {len cap : Nat} {d : DataW H} {p : List MemPlace} (h : DataW.Trod enc Try.prog W base spare held 36 (.slice a len cap) d p) :
    ∃ l, len = l.length ∧ ZOs W a l ∧ l.length ≤ maxLen := by
  obtain ⟨fuel, hf⟩ := h
  rcases open_slice_fields Try.underlying36 Try.underlying40 (by kernel_rfl) (by kernel_rfl) hf with ⟨hcs, _⟩ | ⟨x, len', c, m, hcs, hl, hm, hmm, hi⟩
  · simp [Value.cells] at hcs
    obtain ⟨rfl, rfl, rfl⟩ := hcs
    exact ⟨[], rfl, ⟨fun h => by simp at h, fun x hx => by simp at hx⟩, by simp⟩
  · simp [Value.cells] at hcs
    obtain ⟨rfl, rfl, rfl⟩ := hcs
    obtain ⟨f, hF⟩ := choose_lt (α := ZO) (n := len) (p := fun i q => ZOk W q ∧ W.cell? (x.add (i * 6 + 0)) = some (.int .i64 q.kind) ∧ W.cell? (x.add (i * 6 + 1)) = some (.int .i64 q.z) ∧ W.cell? (x.add (i * 6 + 2)) = some (.int .i64 q.at') ∧ W.cell? (x.add (i * 6 + 3)) = some (.int .i64 q.n) ∧ W.cell? (x.add (i * 6 + 4)) = some (.slice q.da q.data.length q.dc) ∧ W.cell? (x.add (i * 6 + 5)) = some (.slice q.ka q.keep.length q.kc)) (fun i hi' => by
      obtain ⟨n, hq⟩ := hi i (by omega)
      obtain ⟨v0, y0, c0, t0⟩ := hq 0 _ rfl
      obtain ⟨v1, y1, c1, t1⟩ := hq 1 _ rfl
      obtain ⟨v2, y2, c2, t2⟩ := hq 2 _ rfl
      obtain ⟨v3, y3, c3, t3⟩ := hq 3 _ rfl
      obtain ⟨v4, y4, c4, t4⟩ := hq 4 _ rfl
      obtain ⟨v5, y5, c5, t5⟩ := hq 5 _ rfl
      obtain ⟨n0, e0, _, w0⟩ := DataW.trod_int Try.underlying3 t0
      obtain ⟨n1, e1, _, w1⟩ := DataW.trod_int Try.underlying3 t1
      obtain ⟨n2, e2, _, w2⟩ := DataW.trod_int Try.underlying3 t2
      obtain ⟨n3, e3, _, w3⟩ := DataW.trod_int Try.underlying3 t3
      simp only [List.cons.injEq, and_true] at e0 e1 e2 e3
      subst e0 e1 e2 e3
      obtain ⟨l, hr, hm⟩ := rb_val t4
      obtain ⟨da, dc, rfl, _⟩ := hr.shape
      obtain ⟨ka, kl, kc, rfl, hk, hkm⟩ := ints_val t5
      exact ⟨⟨n0, n1, n2, n3, da, dc, l, ka, kc, kl⟩, ⟨bounds_i64 w0, bounds_i64 w1, bounds_i64 w2, bounds_i64 w3, hr, hm, hk, hkm⟩, c0, c1, c2, c3, c4, c5⟩)
    refine ⟨(List.range len).map f, by simp, ⟨fun hp => ?_, fun y hy => ?_⟩, by simp; omega⟩
    · simp at hp
      obtain ⟨b, off, spot⟩ := x
      have hc0 := (hF 0 hp).2.1
      have hspot : spot = none := by simpa [Addr.add] using World.cell?_spot hc0
      subst hspot
      refine ⟨b, off, rfl, fun j hj => ?_⟩
      simp at hj
      obtain ⟨_, q0, q1, q2, q3, q4, q5⟩ := hF j hj
      rw [add_none] at q0 q1 q2 q3 q4 q5
      simp only [List.getElem_map, List.getElem_range]
      exact ⟨q0, by rw [Nat.add_assoc]; exact q1, by rw [Nat.add_assoc]; exact q2, by rw [Nat.add_assoc]; exact q3, by rw [Nat.add_assoc]; exact q4, by rw [Nat.add_assoc]; exact q5⟩
    · obtain ⟨i, hi', rfl⟩ := List.mem_map.1 hy
      exact (hF i (by simpa using hi')).1
end
def zsm1 (x : ZO) : Bool := decide (x.data.length ≤ 400 ∧ x.keep.length ≤ 70)
def zsm (l : List ZO) (most : Nat) : Bool := l.all zsm1 && decide (l.length ≤ most)
theorem zsm_of {l : List ZO} {most : Nat} (h : zsm l most = true) : l.length ≤ most ∧ ∀ i (hi : i < l.length), l[i].data.length ≤ 400 ∧ l[i].keep.length ≤ 70 := by
  unfold zsm at h
  rw [Bool.and_eq_true, List.all_eq_true] at h
  exact ⟨of_decide_eq_true h.2, fun i hi => of_decide_eq_true (h.1 _ (List.getElem_mem hi))⟩
set_option maxRecDepth 100000 in
set_option maxHeartbeats 4000000 in
theorem zsmall {w : World} {a : Option Addr} {c : Nat} {l : List ZO} (h : ZOs w a l) (hl : l.length ≤ maxLen) (most : Nat) :
    Calls Try.prog 13 #[.slice a l.length c, .int .i64 (most : Nat)] w fun e w' => e = .returned (.bool (zsm l most)) ∧ Below w.heap.size w w' := by
  unfold maxLen at hl
  have H := Lib.hid h
  clear h
  go_enter Try.func13, Try.ntmps13
  go_wp2
  go_loopw [9] (fun i wr => ∃ n : Nat, n ≤ l.length ∧ i = .int .i64 n ∧ (∀ j (hj : j < l.length), j < n → zsm1 l[j] = true) ∧ Below w.heap.size w wr) (fun i _ => l.length - (intOf i).toNat)
  case atStart => exact ⟨0, Nat.zero_le _, rfl, fun j _ h => by omega, Below.refl _ _⟩
  case round =>
    obtain ⟨n, hn, rfl, hall, hbr⟩ := hrel
    have Hall := Lib.hid hall
    clear hall
    by_cases hlt : n < l.length
    · obtain ⟨b, off, rfl, f0, f1, f2, f3, f4, f5, hok⟩ := H.out.cells hbr n hlt
      have hdl := hok.dl
      have hkl := hok.kl
      unfold maxLen at hdl hkl
      have hnx : l[n].data.length ≤ 400 → l[n].keep.length ≤ 70 → ∀ j (hj : j < l.length), j < n + 1 → zsm1 l[j] = true := fun h1 h2 j hj hjn => by
        rcases Nat.lt_or_ge j n with h | h
        · exact Hall.out j hj h
        · obtain rfl : j = n := by omega
          exact decide_eq_true ⟨h1, h2⟩
      have hbad : ¬ (l[n].data.length ≤ 400 ∧ l[n].keep.length ≤ 70) → zsm l most = false := fun h => by
        unfold zsm
        have : l.all zsm1 = false := by
          rw [List.all_eq_false]
          exact ⟨l[n], List.getElem_mem hlt, by simp only [zsm1, decide_eq_true_eq]; exact h⟩
        rw [this]; rfl
      have Hnx := Lib.hid hnx
      have Hbad := Lib.hid hbad
      have HB := Lib.hid hbr
      clear hnx hbad hok hbr
      generalize l[n].data.length = dl at *
      generalize l[n].keep.length = kl at *
      generalize l[n].kind = x0 at *
      generalize l[n].z = x1 at *
      generalize l[n].at' = x2 at *
      generalize l[n].n = x3 at *
      generalize l[n].da = x4 at *
      generalize l[n].dc = x5 at *
      generalize l[n].ka = x6 at *
      generalize l[n].kc = x7 at *
      have h3 : (dl ≤ 400 ∧ kl ≤ 70) ∨ 400 < dl ∨ (dl ≤ 400 ∧ 70 < kl) := by omega
      rcases h3 with ⟨h1, h2⟩ | h1 | ⟨h1, h2⟩
      · go_wp2
        go_roundw
        case rel => exact ⟨n + 1, by omega, by go_num, Hnx.out h1 h2, bnext HB.out (by (repeat first | exact Below.refl _ _ | refine Below.drew ?_ | refine Below.alloc ?_ (by simp <;> omega) _ | refine Below.setCell ?_ (by simp <;> omega) _))⟩
        case measure => simp [intOf]; omega
      · have e := Lib.hid (Hbad.out (by omega))
        go_wp2
        go_ret
        exact ⟨by rw [e.out]; rfl, bnext HB.out (by (repeat first | exact Below.refl _ _ | refine Below.drew ?_ | refine Below.alloc ?_ (by simp <;> omega) _ | refine Below.setCell ?_ (by simp <;> omega) _))⟩
      · have e := Lib.hid (Hbad.out (by omega))
        go_wp2
        go_ret
        exact ⟨by rw [e.out]; rfl, bnext HB.out (by (repeat first | exact Below.refl _ _ | refine Below.drew ?_ | refine Below.alloc ?_ (by simp <;> omega) _ | refine Below.setCell ?_ (by simp <;> omega) _))⟩
    · have e : zsm l most = decide (l.length ≤ most) := by
        unfold zsm
        have : l.all zsm1 = true := by
          rw [List.all_eq_true]
          intro x hx
          obtain ⟨i, hi, rfl⟩ := List.getElem_of_mem hx
          exact Hall.out i hi (by omega)
        rw [this]; rfl
      have E := Lib.hid e
      have HB := Lib.hid hbr
      clear e hbr
      by_cases hm : l.length ≤ most
      · have e2 := Lib.hid (decide_eq_true hm)
        go_wp2
        go_ret
        exact ⟨by rw [E.out, e2.out]; rfl, HB.out⟩
      · have e2 := Lib.hid (decide_eq_false hm)
        go_wp2
        go_ret
        exact ⟨by rw [E.out, e2.out]; rfl, HB.out⟩
end Go.Proofs.Ytijgbciaifdbeaa
