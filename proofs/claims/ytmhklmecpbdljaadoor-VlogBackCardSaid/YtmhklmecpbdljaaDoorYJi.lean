/- Texts joined: Vo1, Vo2. -/
import Derived.Test.YtmhklmecpbdljaaDoorYJc
import Derived.Test.YtmhklmecpbdljaaDoorYRefB
import Derived.Test.YtmhklmecpbdljaaDoorYRef2
import Derived.Test.YtmhklmecpbdljaaDoorYPl2
/- Chapter 14: a log over one zone of the small device. -/

namespace Go.Proofs.YtmhklmecpbdljaaDoor
open Go.RowKit
set_option linter.unusedVariables false
set_option linter.unusedSimpArgs false

/-- all zones but z are empty; z has the bytes L -/
structure One (z : Nat) (D : Dv) (L : List UInt8) : Prop where
  n : D.n = 4
  size : D.size = 400
  op : D.op = 4
  lenA : D.A.length = 4
  down : D.down = false
  left : D.left < 0
  zz : z < 4
  b : ∀ h : z < D.A.length, D.A[z].b = L
  oth : ∀ j (h : j < D.A.length), j ≠ z → D.A[j].st = 0 ∧ D.A[j].b = []
  st2 : ∀ h : z < D.A.length, D.A[z].st = 2 ↔ L.length = 400
theorem One.new {z : Nat} (hz : z < 4) : One z (dv0 4 400 4) [] :=
  have hx : ∀ j (h : j < (dv0 4 400 4).A.length), (dv0 4 400 4).A[j] = ⟨0, [], 0⟩ := fun j h => List.getElem_replicate _
  ⟨rfl, rfl, rfl, rfl, rfl, (by show (-1 : Int) < 0; decide), hz, fun h => by rw [hx z h], fun j h _ => by rw [hx j h]; exact ⟨rfl, rfl⟩, fun h => by rw [hx z h]; simp⟩
section
variable {z : Nat} {D : Dv} {L : List UInt8}
theorem One.lt (h : One z D L) : z < D.A.length := by rw [h.lenA]; exact h.zz
theorem One.rm (h : One z D L) (hL : L.length ≤ 400) : zrm D (z : Nat) = (400 : Int) - (L.length : Int) := by
  rw [zrm_at z h.lt, h.b h.lt, h.size]
  by_cases e : (D.A[z]'h.lt).st = 2
  · rw [if_pos e, (h.st2 h.lt).1 e]; rfl
  · rw [if_neg e]; rfl
theorem One.pt (h : One z D L) : zpt D (z : Nat) = (L.length : Nat) := by rw [zpt_at z h.lt, h.b h.lt]
theorem One.read (h : One z D L) (i j : Int) : zread D (z : Nat) i j = zrdb L i j := by
  rw [zread_in h.down (by rw [h.n]; exact h.zz) h.lt, h.b h.lt]
theorem One.readO (h : One z D L) {y : Int} (hy : y ≠ (z : Nat)) (i : Int) {s : Int} (hs : 0 < s) : zread D y i s = ([], 70) := by
  rcases zcases D y with h1 | ⟨h1, m, rfl, h2⟩
  · rw [zread_bad h1]
    have h' : y < 0 ∨ (D.n : Int) ≤ y := by
      rcases h1 with h1 | h1
      · rw [h.down] at h1; cases h1
      · exact h1
    rw [zfnd_out h.down h']
  · have hm : m < D.A.length := by rw [h.lenA, ← h.n]; exact h2
    rw [zread_in h.down h2 hm, (h.oth m hm (by omega)).2]
    exact zrdb_nil _ _ hs
theorem One.opn (h : One z D L) (h0 : (D.A[z]'h.lt).st = 0) : zopn D.A = 0 := by
  unfold zopn
  rw [List.countP_eq_zero]
  intro x hx
  obtain ⟨j, hj, rfl⟩ := List.mem_iff_getElem.1 hx
  by_cases e : j = z
  · subst e; simp [h0]
  · simp [(h.oth j hj e).1]
/-- bytes are laid -/
theorem One.app (h : One z D L) (m : List UInt8) (hL : L.length < 400) (hm : L.length + m.length ≤ 400) : ∃ D', zapp D (z : Nat) m = (D', 0) ∧ One z D' (L ++ m) ∧ D'.done = D.done + 1 := by
  have hst : (D.A[z]'h.lt).st ≠ 2 := fun e => by have := (h.st2 h.lt).1 e; omega
  rw [zapp_in h.down (by rw [h.n]; exact h.zz) h.lt]
  unfold zappA
  rw [if_neg hst, if_neg (by rintro ⟨h0, h1⟩; rw [h.opn h0, h.op] at h1; omega), h.b h.lt, h.size, if_neg (by omega)]
  refine ⟨{ D with done := D.done + 1, A := D.A.set z ⟨if L.length + m.length = 400 then 2 else 1, L ++ m, (D.A[z]'h.lt).fl⟩ }, ?_, ⟨h.n, h.size, h.op, by simp only [List.length_set]; exact h.lenA, h.down, h.left, h.zz, fun _ => ?_, fun j hj hne => ?_, fun _ => ?_⟩, rfl⟩
  · rw [zcmd_free (by exact h.left)]; simp only [h.size]
  · simp
  · simp only [List.length_set] at hj
    simp only
    rw [List.getElem_set_ne (fun e => hne e.symm)]
    exact h.oth j hj hne
  · simp only [List.getElem_set_self, List.length_append]
    by_cases e : L.length + m.length = 400 <;> simp [e]
theorem One.app_no (h : One z D L) (m : List UInt8) (hm : L.length = 400 ∨ 400 < L.length + m.length) : ∃ er : Int, zapp D (z : Nat) m = (D, er) ∧ er ≠ 0 := by
  rw [zapp_in h.down (by rw [h.n]; exact h.zz) h.lt]
  unfold zappA
  by_cases hst : (D.A[z]'h.lt).st = 2
  · rw [if_pos hst]; exact ⟨_, rfl, by decide⟩
  · have hne : L.length ≠ 400 := fun e => hst ((h.st2 h.lt).2 e)
    rw [if_neg hst, if_neg (by rintro ⟨h0, h1⟩; rw [h.opn h0, h.op] at h1; omega), h.b h.lt, h.size, if_pos (by omega)]
    exact ⟨_, rfl, by decide⟩
end
/-- what a log that is appended to tells -/
def AppIs (z : Nat) (D D' : Dv) (L R : List UInt8) (zz aa nn er : Int) : Prop :=
  (er = 0 ∧ zz = (z : Nat) ∧ aa = (L.length : Nat) ∧ nn = (R.length : Nat) ∧ L.length + (frB R).length ≤ 400 ∧ One z D' (L ++ frB R) ∧ D'.done = D.done + 1) ∨
  (er = 201 ∧ zz = 0 ∧ aa = 0 ∧ nn = 0 ∧ D' = D ∧ 400 < (frB R).length) ∨
  (er = 73 ∧ zz = 0 ∧ aa = 0 ∧ nn = 0 ∧ D' = D ∧ (frB R).length ≤ 400 ∧ 400 < L.length + (frB R).length)
section
variable {w w' : World} {B q p : Nat} {F : Nat → Prop} {D : Dv} {z : Nat} {L : List UInt8}
/-- a record is laid -/
theorem One.log (hD : One z D L) (hL : L.length ≤ 400) (h : LI w B q p F D ([] ++ [z])) (hT : Tab9 w) (R : List UInt8) (hR : R.length ≤ 1000000) (hdn : D.done < 4611686018427387904) :
    ∃ D' zz aa nn er, AppIs z D D' L R zz aa nn er ∧ ∀ (W : World) (ao : Option Addr) (c : Nat), Below w.heap.size w W → RB W (.slice ao R.length c) R → Calls Tryd.prog 29 #[.pointer (some ⟨q, 0, none⟩), .slice ao R.length c] W fun e w' => e = .returned (.tuple #[.int .i64 zz, .int .i64 aa, .int .i64 er]) ∧ LOut W B q p F D' ([] ++ [z]) w' := by
  have hrm := hD.rm hL
  have hf5 := frB_pos R
  by_cases h1 : 400 < (frB R).length
  · exact ⟨D, 0, 0, 0, 201, .inr (.inl ⟨rfl, rfl, rfl, rfl, rfl, h1⟩), fun W ao c hW hr => ((h.below hW).append_large (hT.below hW) hr hR (by rw [hD.size]; exact h1)).mono fun e w' ⟨h1, h2⟩ => ⟨h1, LOut.same (h.below hW) h2⟩⟩
  · by_cases h2 : 400 < L.length + (frB R).length
    · exact ⟨D, 0, 0, 0, 73, .inr (.inr ⟨rfl, rfl, rfl, rfl, rfl, by omega, h2⟩), fun W ao c hW hr => ((h.below hW).append_full (by simp) (hT.below hW) hr hR (by rw [hD.size]; omega) (by rw [hrm]; omega)).mono fun e w' ⟨h1, h2⟩ => ⟨h1, LOut.same (h.below hW) h2⟩⟩
    · obtain ⟨D', hz, hD', hdn'⟩ := hD.app (frB R) (by omega) (by omega)
      refine ⟨D', (z : Nat), (L.length : Nat), (R.length : Nat), 0, .inl ⟨rfl, rfl, rfl, rfl, by omega, hD', hdn'⟩, fun W ao c hW hr => ?_⟩
      have := (h.below hW).append (er := 0) (by simp) (hT.below hW) hr hR (by rw [hD.size]; omega) (by rw [hrm]; omega) hdn hz rfl
      rw [hD.pt] at this
      exact this
/-- a value is put -/
theorem One.put (hD : One z D L) (hL : L.length ≤ 400) (h : LI w B q p F D ([] ++ [z])) (hT : Tab9 w) {u : ByteArray} {s k : Int} {v : ByteArray} (hr : keyRight u s k = true) (hv : v.size ≤ 100000) (hdn : D.done < 4611686018427387904) :
    ∃ D' zz aa nn er, AppIs z D D' L (recB u s k v) zz aa nn er ∧ Calls Tryd.prog 13 #[.pointer (some ⟨q, 0, none⟩), .agg #[.string u, .int .i64 s, .int .i64 k], .string v] w fun e w' => e = .returned (.tuple #[.agg #[.int .i64 zz, .int .i64 aa, .int .i64 nn], .int .i64 er]) ∧ LOut w B q p F D' ([] ++ [z]) w' := by
  have hRl := recB_len hr v (by omega)
  obtain ⟨D', zz, aa, nn, er, hA, hC⟩ := hD.log hL h hT (recB u s k v) (by omega) hdn
  refine ⟨D', zz, aa, nn, er, hA, h.put hr (by omega) zz aa er zz aa nn hC ?_⟩
  rcases hA with ⟨h1, h2, h3, h4, _⟩ | ⟨h1, h2, h3, h4, _⟩ | ⟨h1, h2, h3, h4, _⟩
  · exact .inl ⟨h1, rfl, rfl, h4⟩
  · exact .inr ⟨by rw [h1]; decide, h2, h3, h4⟩
  · exact .inr ⟨by rw [h1]; decide, h2, h3, h4⟩
/-- bytes are laid by the device -/
theorem One.raw (hD : One z D L) (hL : L.length ≤ 400) (h : LI w B q p F D ([] ++ [z])) (m : List UInt8) (hm : m.length ≤ 1000000) (hdn : D.done < 4611686018427387904) :
    ∃ (D' : Dv) (L' : List UInt8) (er : Int), ((er = 0 ∧ L' = L ++ m) ∨ (er ≠ 0 ∧ L' = L)) ∧ L'.length ≤ 400 ∧ One z D' L' ∧ D'.done ≤ D.done + 1 ∧ ∀ (ao : Option Addr) (c : Nat), RB w (.slice ao m.length c) m → Calls Tryd.prog 14 #[.pointer (some ⟨p, 0, none⟩), .int .i64 (z : Nat), .slice ao m.length c] w fun e w' => e = .returned (.int .i64 er) ∧ LOut w B q p F D' ([] ++ [z]) w' := by
  by_cases h1 : L.length = 400 ∨ 400 < L.length + m.length
  · obtain ⟨er, hz, her⟩ := hD.app_no m h1
    exact ⟨D, L, er, .inr ⟨her, rfl⟩, hL, hD, Nat.le_succ _, fun ao c hr => h.dappend hdn _ hr hm hz⟩
  · obtain ⟨D', hz, hD', hdn'⟩ := hD.app m (by omega) (by omega)
    exact ⟨D', L ++ m, 0, .inl ⟨rfl, rfl⟩, by rw [List.length_append]; omega, hD', by omega, fun ao c hr => h.dappend hdn _ hr hm hz⟩
end
end Go.Proofs.YtmhklmecpbdljaaDoor
/- Chapter 14: device, ref, the document's Record; awake. -/

namespace Go.Proofs.YtmhklmecpbdljaaDoor
open Go.RowKit
set_option linter.unusedVariables false
set_option linter.unusedSimpArgs false

theorem device14 (w : World) : Calls Tryd.prog 9 #[] w fun e w' => ∃ p F, e = .returned (.pointer (some ⟨p, 0, none⟩)) ∧ DI w' w.heap.size p F (dv0 4 400 4) ∧ Below w.heap.size w w' := by
  have hn : Calls Tryd.prog 33 #[.agg #[.int .i64 4, .int .i64 400, .int .i64 4]] w fun e w' => ∃ p F, e = .returned (.pointer (some ⟨p, 0, none⟩)) ∧ DI w' w.heap.size p F (dv0 4 400 4) ∧ Below w.heap.size w w' := DI.new w 4 400 4 (by decide)
  have HN := Lib.hid hn
  clear hn
  go_enter Tryd.func9, Tryd.ntmps9
  go_wp2_with fail; (with_reducible refine (HN.out).mono ?_); rintro e w1 ⟨p, F, rfl, hD, hb⟩
  have HD := Lib.hid hD
  clear hD HN
  go_wp2
  go_ret
  exact ⟨p, F, rfl, HD.out, hb⟩
set_option maxRecDepth 100000 in
set_option maxHeartbeats 2000000 in
theorem lawref14 (u : ByteArray) (s k : Int) (w : World) :
    Calls Tryd.prog 19 #[.agg #[.string u, .int .i64 s, .int .i64 k]] w fun e w' => e = .returned (.agg #[.string u, .int .i64 s, .int .i64 k]) ∧ Below w.heap.size w w' := by
  go_enter Tryd.func19, Tryd.ntmps19
  go_wp2
  exact bodyPost_ret (v := .agg #[.string u, .int .i64 s, .int .i64 k]) (by simp [results, Tryd.results19, go_sem]) rfl ⟨rfl, by (repeat first | exact Below.refl _ _ | refine Below.drew ?_ | refine Below.alloc ?_ (by simp <;> omega) _ | refine Below.setCell ?_ (by simp <;> omega) _)⟩
set_option maxRecDepth 100000 in
set_option maxHeartbeats 4000000 in
theorem refrecord (u : ByteArray) (s k : Int) (v : ByteArray) (w : World) (h : keyRight u s k = true) (hv : v.size ≤ 1000000) :
    Calls Tryd.prog 21 #[.agg #[.string u, .int .i64 s, .int .i64 k], .string v] w (NewB w (recB u s k v)) := by
  obtain ⟨q0, q1, q2⟩ := cells3n (w := w) (a := .string u) (b := .int .i64 s) (c := .int .i64 k) (T := 48)
  have hkl := (right_size h).2
  have hba : Below w.heap.size w (w.alloc (.cells #[.string u, .int .i64 s, .int .i64 k] 48)) := (Below.refl _ w).alloc (Nat.le_refl _) _
  have HBA := Lib.hid hba
  have hconv := fun (w : World) => run_bytes_of_string (P := Tryd.prog) w 9 23 5 v Tryd.underlying9 Tryd.underlying23 Tryd.underlying5
  have hek : recB u s k v = txtB (keyBytes u.data.toList s k) ++ txtB v.data.toList := rfl
  have HEK := Lib.hid hek
  have HK := Lib.hid (refbytes u s k (w.alloc (.cells #[.string u, .int .i64 s, .int .i64 k] 48)) h)
  clear hba hek h
  generalize recB u s k v = R at *
  generalize keyBytes u.data.toList s k = X at *
  go_enter Tryd.func21, Tryd.ntmps21
  go_wp2_with fail; (with_reducible refine (HK.out).mono ?_); rintro e w1 ⟨v1, rfl, ho1, hb1⟩
  obtain ⟨a1, n1, c1, rfl, hm1⟩ := ho1.shape
  obtain rfl := ho1.len
  have HB1 := Lib.hid (HBA.out.trans (hb1.mono HBA.out.size))
  have H2 := Lib.hid (reftext ho1.reads (by omega))
  clear ho1 hb1 q0 q1 q2 HK
  go_wp2_with fail; (with_reducible refine (H2.out).mono ?_); rintro e w2 ⟨v2, rfl, ho2, hb2⟩
  obtain ⟨a2, n2, c2, rfl, hm2⟩ := ho2.shape
  have hln := ho2.len
  have HB2 := Lib.hid (HB1.out.trans (hb2.mono HB1.out.size))
  have HO2 := Lib.hid (ho2.mono HB1.out.size)
  have H3 : Hid (∀ (W : World) g cap fr, W.heap[g]? = some (.cells (bytesRow v cap) 5 fr) → v.size ≤ cap → Calls Tryd.prog 42 #[.slice (some ⟨g, 0, none⟩) v.size cap] W (NewB W (txtB v.data.toList))) := Lib.hid fun W g cap fr hg hc => by
    have key : ∀ n, n = v.data.toList.length → RB W (.slice (some ⟨g, 0, none⟩) n cap) v.data.toList → Calls Tryd.prog 42 #[.slice (some ⟨g, 0, none⟩) n cap] W (NewB W (txtB v.data.toList)) := fun n hn hr => by
      subst hn
      exact reftext hr (by rw [vdataLen]; omega)
    exact key v.size (vdataLen v).symm (vrow_bytes hc hg)
  have hX9 := num_len9 (n := X.length) (by omega)
  have htl : (txtB v.data.toList).length ≤ 1000009 := by
    have := num_len9 (n := v.size) (by omega)
    unfold txtB; rw [List.length_append, vdataLen]; omega
  have hxl : (num X.length ++ X).length ≤ 200 := by rw [List.length_append]; omega
  have hln2 : n2 = (num X.length ++ X).length := hln
  have e2 : txtB X = num X.length ++ X := rfl
  have HEK2 : Hid (R = (num X.length ++ X) ++ txtB v.data.toList) := Lib.hid (by rw [HEK.out, e2])
  clear ho2 hb2 H2 hln e2 hX9
  generalize txtB v.data.toList = T at *
  generalize num X.length ++ X = S at *
  subst hln2
  go_wp2_with fail
  with_reducible refine (H3.out _ _ _ (_, _) (vnew_drew ?hg) (grownCap_ge _ _ _ _)).mono ?_
  case hg => simp
  rintro e w3 ⟨v3, rfl, ho3, hb3⟩
  obtain ⟨a3, n3, c3, rfl, hm3⟩ := ho3.shape
  obtain rfl := ho3.len
  have hb23 : Below w2.heap.size w2 w3 := ((Below.refl w2.heap.size w2).alloc (Nat.le_refl _) _).drew.trans (hb3.mono (by simp))
  have HO23 := Lib.hid (HO2.out.past hb23 (Nat.le_refl _))
  have HB3 := Lib.hid (HB2.out.trans (hb23.mono HB2.out.size))
  have HR3 := Lib.hid ho3.reads
  have hz3 := HB3.out.size
  clear ho3 hb3 hb23 hconv H3
  go_wp2_with (at_builtin; go_loud (refine wpList_appr rfl (.tmp 7) (.tmp 10) rfl w.heap.size _ S rfl HO23.out _ T rfl HR3.out ?_ hz3 ?_); (omega); intro v4 w4 ho4 hold ha4)
  go_ret
  exact ⟨v4, rfl, by rw [HEK2.out]; exact ho4, HB3.out.trans (HO23.out.below ha4 hz3)⟩
theorem eqPtr (a b c a' b' c' : Int) (w : World) : (binOp .eql 25 (.agg #[.int .i64 a, .int .i64 b, .int .i64 c]) (.agg #[.int .i64 a', .int .i64 b', .int .i64 c'])).run Tryd.prog w = .ok (.bool (a == a' && (b == b' && c == c'))) w := by
  rw [run_eql_struct, run_equalIn_agg w _ 25 _ _ (show Tryd.prog.underlying 25 = some (.struct (Tryd.prog.fieldsOf 25)) by kernel_rfl) (by kernel_rfl)]
  simp [Program.fieldsOf, Tryd.underlying25, go_sem]
  split <;> (try split) <;> (try split) <;> simp_all
theorem nePtr (a b c a' b' c' : Int) (w : World) : (binOp .neq 25 (.agg #[.int .i64 a, .int .i64 b, .int .i64 c]) (.agg #[.int .i64 a', .int .i64 b', .int .i64 c'])).run Tryd.prog w = .ok (.bool (!(a == a' && (b == b' && c == c')))) w := by
  rw [run_neq_struct, run_equalIn_agg w _ 25 _ _ (show Tryd.prog.underlying 25 = some (.struct (Tryd.prog.fieldsOf 25)) by kernel_rfl) (by kernel_rfl)]
  simp [Program.fieldsOf, Tryd.underlying25, go_sem]
  split <;> (try split) <;> (try split) <;> simp_all
theorem One.lread {z : Nat} {D : Dv} {A R C : List UInt8} (h : One z D (A ++ frB R ++ C)) (hR : R.length ≤ 65536) : lread D (z : Nat) (A.length : Nat) (R.length : Nat) = (R, 0) := by
  refine lread_whole (t := R) (I := frB R) hR ?_ ?_ rfl rfl
  · rw [h.read, fsz_frB]
    unfold zrdb
    rw [if_neg (by simp only [List.length_append]; omega)]
    simp
  · have := ScanIs.one (t := R) (by omega) (r := []) rfl
    rwa [List.append_nil] at this
theorem VGet.found {D : Dv} {z a n : Int} {u : ByteArray} {s k : Int} {v x : ByteArray} {er : Int} (h : VGet D z a n u s k v er) (hp : pchk z a n = true) (hl : _root_.Go.Proofs.YtmhklmecpbdljaaDoor.lread D z a n = (recB u s k x, 0)) (hr : keyRight u s k = true) (hx : x.size ≤ 100000) : v = x ∧ er = 0 := by
  rcases h with ⟨h, _⟩ | ⟨_, h, _⟩ | ⟨_, _, h1, _, h2⟩ | ⟨_, _, _, _, h⟩
  · rw [hp] at h; cases h
  · rw [hl] at h; exact absurd rfl h
  · rw [hl] at h2
    have hv := recB_ge u s k v
    have h3 : recB u s k x = recB u s k v := h2
    rw [← h3] at hv
    have := recB_len hr x (by omega)
    exact ⟨(recB_inj hr hr (by omega) (by omega) h3).2.symm, h1⟩
  · rw [hl] at h; exact absurd rfl (h x hr)
theorem rA_len : (recB ⟨#[97]⟩ 1 1 ⟨#[104, 101, 108, 108, 111]⟩).length = 17 := by decide +kernel
theorem rA_right : keyRight ⟨#[97]⟩ 1 1 = true := by decide +kernel
theorem rA_fr : (frB (recB ⟨#[97]⟩ 1 1 ⟨#[104, 101, 108, 108, 111]⟩)).length = 22 := by
  rw [frB_len, rA_len]; decide +kernel
set_option maxRecDepth 100000 in
set_option maxHeartbeats 4000000 in
theorem awake14 {w : World} (hT : Tab9 w) : Calls Tryd.prog 11 #[] w fun e w' => e = .returned (.bool true) ∧ Below w.heap.size w w' := by
  have HT := Lib.hid hT
  clear hT
  go_enter Tryd.func11, Tryd.ntmps11
  go_wp2_with fail; (with_reducible refine (device14 w).mono ?_); rintro e w1 ⟨p, F1, rfl, hD1, hb1⟩
  have HB1 := Lib.hid hb1
  have hba := (Below.refl w1.heap.size w1).alloc (Nat.le_refl _) (.cells #[.int .i64 3] 3)
  have HBA := Lib.hid hba
  have hnew : Calls Tryd.prog 12 #[.pointer (some ⟨p, 0, none⟩), .slice (some ⟨w1.heap.size, 0, none⟩) 1 1] (w1.alloc (.cells #[.int .i64 3] 3)) fun e w' => ∃ q F, e = .returned (.pointer (some ⟨q, 0, none⟩)) ∧ LI w' w.heap.size q p F (dv0 4 400 4) ([] ++ [3]) ∧ Below (w1.alloc (.cells #[.int .i64 3] 3)).heap.size (w1.alloc (.cells #[.int .i64 3] 3)) w' := lnew (zs := [3]) (c := 1) (hD1.below hba) (kz_one w1 3) (fun h => by simp at h) (by decide)
  have HNew := Lib.hid hnew
  clear hnew hba hb1 hD1
  go_wp2_with fail; (with_reducible refine (HNew.out).mono ?_); rintro e w2 ⟨q, F2, rfl, hL2, hb2⟩
  have HB2 := Lib.hid (HB1.out.trans ((HBA.out.trans (hb2.mono HBA.out.size)).mono HB1.out.size))
  have HL2 := Lib.hid hL2
  clear hb2 hL2 HNew HBA HB1
  have hk := heap_alloc_new w2 (.cells #[.string ⟨#[97]⟩, .int .i64 1, .int .i64 1] 27)
  have hbk := (Below.refl w2.heap.size w2).alloc (Nat.le_refl _) (.cells #[.string ⟨#[97]⟩, .int .i64 1, .int .i64 1] 27)
  obtain ⟨x0, x1, x2, _⟩ := cell3v hk
  have HB3 := Lib.hid (HB2.out.trans (hbk.mono HB2.out.size))
  have HL3 := Lib.hid (HL2.out.below hbk)
  have HFl := Lib.hid HL2.out.ge
  obtain ⟨D', zz, aa, nn, er, hA, hC⟩ := (One.new (z := 3) (by decide)).put (by simp) HL3.out (HT.out.below HB3.out) (v := ⟨#[104, 101, 108, 108, 111]⟩) rA_right (by decide) (by show (0 : Nat) < _; decide)
  have hfr := rA_fr
  rcases hA with ⟨rfl, rfl, rfl, rfl, _, hO, _⟩ | ⟨_, _, _, _, _, h⟩ | ⟨_, _, _, _, _, _, h⟩
  case inr.inl => omega
  case inr.inr => simp only [List.length_nil] at h; omega
  rw [rA_len] at hC
  have HC := Lib.hid hC
  have HOn := Lib.hid hO
  have hkz : w2.heap.size < (w2.alloc (.cells #[.string ⟨#[97]⟩, .int .i64 1, .int .i64 1] 27)).heap.size := by simp
  have HKb := Lib.hid hk
  clear hk hbk hC hO hfr HL2 HB2
  go_wp2_with fail
  with_reducible refine (HC.out).mono ?_
  rintro e w4 ⟨rfl, ho4⟩
  have hk4 := blk_chg HKb.out ho4.2 (fun hf => by have := (HFl.out _ hf).2; omega)
  have hb4 := ho4.below HL3.out.ge HL3.out.room
  obtain ⟨⟨F4, hL4, _⟩, _⟩ := ho4
  have HB4 := Lib.hid (HB3.out.trans hb4)
  obtain ⟨y0, y1, y2, _⟩ := cell3v hk4
  have hbp := (Below.refl w4.heap.size w4).alloc (Nat.le_refl _) (.cells #[.int .i64 3, .int .i64 0, .int .i64 17] 25)
  have z0 := cell_next y0 _ hbp
  have z1 := cell_next y1 _ hbp
  have z2 := cell_next y2 _ hbp
  obtain ⟨p0, p1, p2⟩ := cells3n (w := w4) (a := .int .i64 3) (b := .int .i64 0) (c := .int .i64 17) (T := 25)
  have HB5 := Lib.hid (HB4.out.trans (hbp.mono HB4.out.size))
  have HGt := Lib.hid ((hL4.below hbp).get (HT.out.below HB5.out) 3 0 17 ⟨#[97]⟩ 1 1)
  have hpz := blk_lt hk4
  have HK5 : Hid (∀ W, Below (w4.alloc (.cells #[.int .i64 3, .int .i64 0, .int .i64 17] 25)).heap.size (w4.alloc (.cells #[.int .i64 3, .int .i64 0, .int .i64 17] 25)) W → W.cell? ⟨w4.heap.size, 0, none⟩ = some (.int .i64 3) ∧ W.cell? ⟨w4.heap.size, 1, none⟩ = some (.int .i64 0) ∧ W.cell? ⟨w4.heap.size, 2, none⟩ = some (.int .i64 17)) := Lib.hid fun W hW => ⟨cell_next p0 _ hW, cell_next p1 _ hW, cell_next p2 _ hW⟩
  have HLr : Hid (Go.Proofs.YtmhklmecpbdljaaDoor.lread D' 3 0 17 = (recB ⟨#[97]⟩ 1 1 ⟨#[104, 101, 108, 108, 111]⟩, 0)) := Lib.hid (by
    have h := One.lread (A := []) (C := []) (R := recB ⟨#[97]⟩ 1 1 ⟨#[104, 101, 108, 108, 111]⟩) (z := 3) (D := D') (by rw [List.append_nil]; exact HOn.out) (by rw [rA_len]; decide)
    rw [rA_len] at h
    exact h)
  have hpe := fun W => eqPtr 3 0 17 3 0 17 W
  clear hk4 hb4 hL4 hbp HKb HC HL3 HFl HOn y0 y1 y2 x0 x1 x2
  go_wp2_with fail; (with_reducible refine (HGt.out).mono ?_); rintro e w6 ⟨v, er, rfl, hg, hb6⟩
  obtain ⟨rfl, rfl⟩ := hg.found (by decide) HLr.out rA_right (by decide)
  obtain ⟨u0, u1, u2⟩ := HK5.out _ hb6
  go_wp2
  go_ret
  exact ⟨rfl, HB5.out.trans (hb6.mono HB5.out.size)⟩
end Go.Proofs.YtmhklmecpbdljaaDoor
