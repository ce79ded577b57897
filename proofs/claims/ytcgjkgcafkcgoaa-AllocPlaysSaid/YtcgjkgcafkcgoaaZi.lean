/- A device of zones: Crash. -/
import Derived.Test.YtcgjkgcafkcgoaaZg
namespace Go.Proofs.Ytcgjkgcafkcgoaa
open Go.RowKit
set_option linter.unusedVariables false
set_option linter.unusedSimpArgs false

/-- numbers that lie somewhere -/
def KZ (w : World) (a : Option Addr) (l : List Int) : Prop := 0 < l.length → ∃ b off, a = some ⟨b, off, none⟩ ∧ ∀ i (h : i < l.length), w.cell? ⟨b, off + i, none⟩ = some (.int .i64 l[i])
theorem cell_blkz {w w' : World} {b j : Nat} (h : w'.heap[b]? = w.heap[b]?) : w'.cell? ⟨b, j, none⟩ = w.cell? ⟨b, j, none⟩ := by
  unfold World.cell?
  simp only [h]
theorem KZ.chg {G : Nat → Prop} {w w' : World} {a : Option Addr} {l : List Int} (h : KZ w a l) (hc : Chg G w w') (hd : ∀ b off, a = some ⟨b, off, none⟩ → ¬ G b) : KZ w' a l := fun hl => by
  obtain ⟨b, off, rfl, hcl⟩ := h hl
  refine ⟨b, off, rfl, fun i hi => ?_⟩
  have hbw : b < w.heap.size := World.block_lt_of_cell? w _ (hcl i hi)
  rw [cell_blkz (hc.block b hbw (hd b off rfl))]
  exact hcl i hi
theorem KZ.below {w w' : World} {a : Option Addr} {l : List Int} (h : KZ w a l) (hb : Below w.heap.size w w') : KZ w' a l := h.chg (G := fun _ => False) (Chg.of_below hb) fun _ _ _ h => h
theorem KZ.lt {w : World} {a : Option Addr} {l : List Int} (h : KZ w a l) (hp : 0 < l.length) : ∀ b off, a = some ⟨b, off, none⟩ → b < w.heap.size := fun b off e => by
  obtain ⟨b', off', e', hc⟩ := h hp
  rw [e] at e'
  simp only [Option.some.injEq, Addr.mk.injEq, and_true] at e'
  rw [e'.1]
  exact World.block_lt_of_cell? w _ (hc 0 hp)
def zmore (keep : List Int) (i : Nat) (z : Zn) : Nat := if h : i < keep.length then (min (max keep[i] 0) ((z.b.length : Int) - (z.fl : Int))).toNat else 0
def zcut (size : Nat) (keep : List Int) (i : Nat) (z : Zn) : Zn :=
  ⟨if z.fl + zmore keep i z = 0 then 0 else if z.fl + zmore keep i z = size ∨ z.st = 2 then 2 else 1, z.b.take (z.fl + zmore keep i z), z.fl + zmore keep i z⟩
def zcrs (D : Dv) (keep : List Int) : Dv := { D with A := D.A.mapIdx (zcut D.size keep), left := -1, down := false }
theorem zmore_le (keep : List Int) (i : Nat) (z : Zn) (h : z.fl ≤ z.b.length) : z.fl + zmore keep i z ≤ z.b.length := by
  unfold zmore
  split
  · omega
  · omega
theorem ob_take {w : World} {B : Nat} {l : List UInt8} {g c : Nat} (h : OB w B (.slice (some ⟨g, 0, none⟩) l.length c) l) (m : Nat) (hm : m ≤ l.length) : OB w B (.slice (some ⟨g, 0, none⟩) m c) (l.take m) := by
  have hl : (l.take m).length = m := by rw [List.length_take]; omega
  rcases h.2 with ⟨h', _⟩ | ⟨g', cap', cur, h', hb, hg, hnc, hcm, hcs, htake⟩
  · simp at h'
  · simp only [Value.slice.injEq, Option.some.injEq, Addr.mk.injEq, and_true, true_and] at h'
    obtain ⟨rfl, rfl⟩ := h'
    refine ⟨by rw [bvs_length, Nat.mul_one], .inr ⟨g, c, cur, by rw [hl], hb, hg, by omega, hcm, hcs, ?_⟩⟩
    have e : bvs (l.take m) = (bvs l).take m := by simp [bvs]
    rw [hl, e, ← htake, List.take_take]
    congr 1
    omega
/-- zone n is on its way -/
def PS (w0 : World) (B p r : Nat) (Z : List Zm) (D : Dv) (A : List Zn) (n : Nat) (a : Zn) (wx : World) : Prop :=
  ∃ Z1, DM wx B p r Z1 { D with A := A.set n a } ∧ (∀ q, fpD p r Z1 q → fpD p r Z q) ∧ Chg (fpD p r Z) w0 wx
section
variable {w0 wx : World} {B p r : Nat} {Z : List Zm} {D : Dv} {A : List Zn} {n : Nat} {a : Zn}
theorem PS.lt (h : PS w0 B p r Z D A n a wx) (hn : n < D.n) : n < A.length := by
  obtain ⟨Z1, hD, _⟩ := h
  have := hD.lenA
  simp only [List.length_set] at this
  omega
theorem PS.cells (h : PS w0 B p r Z D A n a wx) (hn : n < D.n) :
    wx.cell? ⟨r, n * 3, none⟩ = some (.int .i64 (a.st : Nat)) ∧ (∃ ao c, wx.cell? ⟨r, n * 3 + 1, none⟩ = some (.slice ao a.b.length c)) ∧ wx.cell? ⟨r, n * 3 + 2, none⟩ = some (.int .i64 (a.fl : Nat)) ∧ (∀ j, wx.frozen? ⟨r, j, none⟩ = false) ∧ wx.cell? ⟨p, 1, none⟩ = some (.int .i64 (D.size : Nat)) ∧ wx.cell? ⟨p, 3, none⟩ = some (.slice (some ⟨r, 0, none⟩) D.n D.n) := by
  have hA := h.lt hn
  obtain ⟨Z1, hD, _⟩ := h
  have hl : Z1.length = D.n := hD.len
  have hz : n < Z1.length := by omega
  have e : Z1[n].z = a := by
    rw [hD.at n hz]
    simp
  obtain ⟨ao, c, hv, _⟩ := hD.v2 n hz
  refine ⟨?_, ⟨ao, c, ?_⟩, ?_, hD.zfz, hD.c1, hD.c3⟩
  · rw [hD.z0 n hz, e]
  · rw [hD.z1 n hz, hv, e]
  · rw [hD.z2 n hz, e]
theorem PS.drew (h : PS w0 B p r Z D A n a wx) : PS w0 B p r Z D A n a wx.drew := by
  obtain ⟨Z1, hD, hf, hc⟩ := h
  exact ⟨Z1, hD.below (Below.refl _ _).drew, hf, hc.trans (Chg.of_below (Below.refl _ _).drew)⟩
theorem PS.st (h : PS w0 B p r Z D A n a wx) (hn : n < D.n) (s : Nat) (hs : s ≤ 2) : PS w0 B p r Z D A n ⟨s, a.b, a.fl⟩ (wx.setCell ⟨r, n * 3, none⟩ (.int .i64 (s : Nat))) := by
  have hA := h.lt hn
  obtain ⟨Z1, hD, hf, hc⟩ := h
  have hl : Z1.length = D.n := hD.len
  have hz : n < Z1.length := by omega
  have e : Z1[n].z = a := by
    rw [hD.at n hz]
    simp
  have h1 := hD.putSt n hz s hs
  rw [e] at h1
  simp only [List.set_set] at h1
  exact ⟨_, h1, fun q hq => hf q (fpD_same hz q hq), hc.trans2 (Chg.set wx r _ _) fun i hi h => .inr (.inl h)⟩
theorem PS.fl (h : PS w0 B p r Z D A n a wx) (hn : n < D.n) (f : Nat) (hs : f ≤ a.b.length) : PS w0 B p r Z D A n ⟨a.st, a.b, f⟩ (wx.setCell ⟨r, n * 3 + 2, none⟩ (.int .i64 (f : Nat))) := by
  have hA := h.lt hn
  obtain ⟨Z1, hD, hf, hc⟩ := h
  have hl : Z1.length = D.n := hD.len
  have hz : n < Z1.length := by omega
  have e : Z1[n].z = a := by
    rw [hD.at n hz]
    simp
  have h1 := hD.putFl n hz f (by rw [e]; exact hs)
  rw [e] at h1
  simp only [List.set_set] at h1
  exact ⟨_, h1, fun q hq => hf q (fpD_same hz q hq), hc.trans2 (Chg.set wx r _ _) fun i hi h => .inr (.inl h)⟩
theorem PS.bt (h : PS w0 B p r Z D A n a wx) (hn : n < D.n) :
    (a.b = [] ∧ wx.cell? ⟨r, n * 3 + 1, none⟩ = some (.slice none 0 0) ∧ PS w0 B p r Z D A n a (wx.setCell ⟨r, n * 3 + 1, none⟩ (.slice none 0 0))) ∨
    ∃ g c, a.b.length ≤ c ∧ c ≤ maxLen ∧ wx.cell? ⟨r, n * 3 + 1, none⟩ = some (.slice (some ⟨g, 0, none⟩) a.b.length c) ∧
      ∀ m, m ≤ a.b.length → a.fl ≤ m → PS w0 B p r Z D A n ⟨a.st, a.b.take m, a.fl⟩ (wx.setCell ⟨r, n * 3 + 1, none⟩ (.slice (some ⟨g, 0, none⟩) m c)) := by
  have hA := h.lt hn
  obtain ⟨Z1, hD, hf, hc⟩ := h
  have hl : Z1.length = D.n := hD.len
  have hz : n < Z1.length := by omega
  have e : Z1[n].z = a := by
    rw [hD.at n hz]
    simp
  have hok := hD.zok n hz
  have ho := hD.ent _ (List.getElem_mem hz)
  have c1 := hD.z1 n hz
  have key : ∀ v b, OB wx B v b → v.ownBlock = Z1[n].v.ownBlock → ZnOk D.size ⟨a.st, b, a.fl⟩ → PS w0 B p r Z D A n ⟨a.st, b, a.fl⟩ (wx.setCell ⟨r, n * 3 + 1, none⟩ v) := fun v b h1 h2 h3 => by
    have h4 := hD.putZ n hz (n * 3 + 1) v ⟨⟨Z1[n].z.st, b, Z1[n].z.fl⟩, v⟩ (zrow_set1 Z1 n hz v b) h1 (fun q hq => .inl (by rw [← h2]; exact hq)) (by rw [e]; exact h3)
    rw [e] at h4
    simp only [List.set_set] at h4
    exact ⟨_, h4, fun q hq => hf q (by
      rcases fpD_set hz hq with h5 | h5
      · exact h5
      · exact .inr (.inr ⟨_, List.getElem_mem hz, by rw [← h2]; exact h5⟩)), hc.trans2 (Chg.set wx r _ _) fun i hi h => .inr (.inl h)⟩
  rcases hD.zn2 n hz with ⟨hv, hb⟩ | ⟨g, c, hv, hcl, hcm, _, _⟩
  · rw [e] at hb hok
    refine .inl ⟨hb, by rw [c1, hv], ?_⟩
    have := key (.slice none 0 0) a.b (by rw [hb]; exact OB.nil _ _) (by rw [hv]) hok
    exact this
  · rw [e] at hv hcl hok ho
    rw [hv] at ho
    refine .inr ⟨g, c, hcl, hcm, by rw [c1, hv], fun m hm hfm => ?_⟩
    exact key _ _ (ob_take ho m hm) (by rw [hv]; rfl) ⟨by simp only [List.length_take]; have h5 : a.b.length ≤ D.size := hok.len; omega, by simp only [List.length_take]; omega, hok.st⟩
end
end Go.Proofs.Ytcgjkgcafkcgoaa
