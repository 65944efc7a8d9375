/- A heap of volatile objects: Set that reaches a field. -/
import Derived.Test.YtcnbcidbbeadcaaVhX
import Derived.BigQuiet
import Derived.Deep.RegionWith
import Derived.Test.YtcnbcidbbeadcaaObjE
import Derived.Test.YtcnbcidbbeadcaaVhQ
-- merged




namespace Go.Proofs.Ytcnbcidbbeadcaa
open Go.RowKit Go.Deep
set_option linter.unusedVariables false

theorem toldV_ok {v : Val} (h : v.ok) : (toldV v).ok := by
  obtain ⟨h1, h2, h3, h4, h5⟩ := h
  obtain ⟨z1, z2, z3, z4, z5⟩ := zeroV_ok
  unfold toldV
  split
  · exact ⟨by show I64 1; unfold I64; omega, h2, z3, z4, z5⟩
  · split
    · exact ⟨by show I64 2; unfold I64; omega, z2, h3, h4, z5⟩
    · split
      · exact ⟨by show I64 3; unfold I64; omega, z2, z3, z4, h5⟩
      · exact ⟨z1, z2, z3, z4, z5⟩
theorem idx_own5 (g n c j : Nat) (hj : j < n) (w' : World) : (Instr.indexAt 23 (.slice (some ⟨g, 0, none⟩) n c) (.int .i64 (j : Int))).run Try.prog w' = .ok (.pointer (some ⟨g, j * 5, none⟩)) w' := by
  have hT' : Try.prog.underlying 23 = some (.slice (Try.prog.elem 23)) := by rw [show Try.prog.elem 23 = 26 from by kernel_rfl]; exact Try.underlying23
  rw [run_indexAt_slice w' 23 _ n c .i64 j hT', if_pos ⟨by omega, by omega⟩, show Try.prog.elem 23 = 26 from by kernel_rfl]
  obtain ⟨inf, hinf, hsz⟩ := Option.map_eq_some_iff.1 (show (Try.prog.info? 26).map (·.size) = some 5 from by kernel_rfl)
  simp [sizeOf, typeInfo, hinf, hsz, Addr.add]
  try omega
/-- A field's cells are set. -/
theorem st_put {w w2 w5 : World} {b base : Nat} {ks : List (List Int)} {o : Nat → VOb} {kv : Value} {F : Nat → Value} (h : IsVh w b base ks o kv F) (u : Upd (fun _ => False) w w5) {i : Nat} (hi : i < 64) (hus : (o i).used = true) (j : Nat) (hj : j < (o i).f.length) (x : Val) (hx : x.ok)
    {g c : Nat} (hF : F i = .slice (some ⟨g, 0, none⟩) (o i).f.length c) (hg : base ≤ g) :
    RetSt w b base ks kv F (setO o i ⟨true, (o i).k, (o i).f.set j x⟩, 0) (.returned (.int .i64 0)) (((((w5.setCell ⟨g, j * 5, none⟩ (.int .i64 x.k)).setCell ⟨g, j * 5 + 1, none⟩ (.int .i64 x.n)).setCell ⟨g, j * 5 + 2, none⟩ (.int .u64 (x.re : Int))).setCell ⟨g, j * 5 + 3, none⟩ (.int .u64 (x.im : Int))).setCell ⟨g, j * 5 + 4, none⟩ (.int .i64 x.r)) := by
  have h5 := h.still u
  have hr := h5.row i hi
  rw [hF] at hr
  have e := cellsV_set (o i).f j hj x
  have r1 := ownsRow_setCell hr (j * 5 + 0) (by omega) (.int .i64 x.k)
  have r2 := ownsRow_setCell r1 (j * 5 + 1) (by omega) (.int .i64 x.n)
  have r3 := ownsRow_setCell r2 (j * 5 + 2) (by omega) (.int .u64 (x.re : Int))
  have r4 := ownsRow_setCell r3 (j * 5 + 3) (by omega) (.int .u64 (x.im : Int))
  have r5 := ownsRow_setCell r4 (j * 5 + 4) (by omega) (.int .i64 x.r)
  rw [e] at r5
  have u5 := (((((Upd.refl (fun k => k = g) w5).at (j * 5) (.int .i64 x.k)).at (j * 5 + 1) (.int .i64 x.n)).at (j * 5 + 2) (.int .u64 (x.re : Int))).at (j * 5 + 3) (.int .u64 (x.im : Int))).at (j * 5 + 4) (.int .i64 x.r)
  refine ⟨rfl, h5.write hi hus j x hx hF hg u5 (by rw [hF]; exact r5), ?_⟩
  exact (u.mono (fun _ _ e => e.elim)).trans (u5.mono (fun k _ e => by subst e; exact ⟨i, hi, by rw [hF]; rfl⟩))
/-- The row of an object that has a field. -/
theorem IsVh.rowAt {w : World} {b base : Nat} {ks : List (List Int)} {o : Nat → VOb} {kv : Value} {F : Nat → Value} (h : IsVh w b base ks o kv F) {i : Nat} (hi : i < 64) (hp : 0 < (o i).f.length) :
    ∃ g c, F i = .slice (some ⟨g, 0, none⟩) (o i).f.length c ∧ base ≤ g ∧ ∃ l, Blk w g l 26 ∧ (o i).f.length * 5 ≤ l.length := by
  rcases (h.row i hi).2 with ⟨hv, h0⟩ | ⟨g, cap, cur, hv, hg, hh, hn, hcap, hsz, htake⟩
  · omega
  · refine ⟨g, cap, hv, hg, cur.toList, hh, ?_⟩
    have : cur.size = cap * 5 := hsz
    have h3 : (o i).f.length * 5 ≤ cap * 5 := Nat.mul_le_mul_right 5 hn
    simpa [this] using h3
set_option maxRecDepth 100000 in
set_option maxHeartbeats 4000000 in
theorem vh_Set_in {w : World} {b base : Nat} {ks : List (List Int)} {o : Nat → VOb} {kv : Value} {F : Nat → Value} (h : IsVh w b base ks o kv F) (x : Int) (j : Nat) (v : Val) (hvo : v.ok) {i : Nat} (hn : findV o x = some i) (hj : j < (o i).f.length) :
    Calls Try.prog 32 #[.pointer (some ⟨b, 0, none⟩), .int .i64 x, .int .i64 j, v.v] w (RetSt w b base ks kv F (setV ks o x j v)) := by
  obtain ⟨r, hr⟩ : ∃ r, setV ks o x j v = r := ⟨_, rfl⟩
  rw [hr]
  unfold setV at hr
  rw [hn] at hr
  simp only at hr
  rw [if_neg (by omega), show (j : Int).toNat = j from by omega] at hr
  obtain ⟨hi, hus, -⟩ := findV_some hn
  obtain ⟨g, c, hF, hg, l, hG, hgl⟩ := h.rowAt hi (by omega)
  have h15 := h.few i hi
  obtain ⟨kin1, kin2, kin3⟩ := h.kin i hi hus
  obtain ⟨kn, hkn⟩ : ∃ kn : Nat, (o i).k = kn := ⟨(o i).k.toNat, by omega⟩
  rw [hkn, show (kn : Int).toNat = kn from by omega] at hr
  have hy : kn < ks.length := by omega
  obtain ⟨H, hR, hrows⟩ := h.kinds w (Upd.refl _ _)
  have hX := Lib.hid hR
  obtain ⟨va, vc, rfl, hcap1, hcap, -⟩ := hR
  have l1 : (ks.length : Int) ≤ 9223372036854775807 := by unfold maxLen at hcap; omega
  obtain ⟨b0, off, hixk, hb0, hc⟩ := hX.out.index (P := Try.prog) Try.underlying22 (by kernel_rfl) (by kernel_rfl) hy
  simp only [Nat.mul_one] at hixk hc
  have hck : w.cell? ⟨b0, off + kn, none⟩ = some (H kn) := hc 0 (by decide)
  have hf := hrows kn hy
  obtain ⟨fa, fc, hfe⟩ : ∃ fa fc, H kn = .slice fa (ks.getD kn []).length fc := by
    obtain ⟨fa, fc, h1, -⟩ := hf
    exact ⟨fa, fc, h1⟩
  rw [hfe] at hf hck
  have hput := fun w' (u : Upd (fun _ => False) w w') => st_put (w2 := w) h u hi hus j hj (toldV v) (toldV_ok hvo) hF hg
  rw [hkn] at hput
  have hput := Lib.hid hput
  have hft := Lib.hid (fun w' (u : Upd (fun _ => False) w w') => vh_Fits _ _ (j : Int) v w' (ints_upd hf u))
  have hto := Lib.hid (fun w' => vh_told v w')
  have fin3 := Lib.hid (fun w' (u : Upd (fun _ => False) w w') => st_same h 3 u)
  obtain ⟨a, n, re, im, rr⟩ := v
  show Calls _ _ #[.pointer (some ⟨b, 0, none⟩), .int .i64 x, .int .i64 j, .agg #[.int .i64 a, .int .i64 n, .int .u64 (re : Int), .int .u64 (im : Int), .int .i64 rr]] _ _
  have hft := Lib.hid (show ∀ w', Upd (fun _ => False) w w' → Calls Try.prog 68 #[.agg #[.slice fa (ks.getD kn []).length fc], .int .i64 j, .agg #[.int .i64 a, .int .i64 n, .int .u64 (re : Int), .int .u64 (im : Int), .int .i64 rr]] w' (RetU w' (.bool (fitsV (ks.getD kn []) j ⟨a, n, re, im, rr⟩))) from hft.out)
  have hto := Lib.hid (show ∀ w', Calls Try.prog 69 #[.agg #[.int .i64 a, .int .i64 n, .int .u64 (re : Int), .int .u64 (im : Int), .int .i64 rr]] w' (RetU w' (toldV ⟨a, n, re, im, rr⟩).v) from hto.out)
  have hu : Upd (fun _ => False) w (w.alloc (.cells #[.int .i64 a, .int .i64 n, .int .u64 (re : Int), .int .u64 (im : Int), .int .i64 rr] 26)) := (Upd.refl _ _).alloc _
  have hB := Lib.hid (Blk.new w [.int .i64 a, .int .i64 n, .int .u64 (re : Int), .int .u64 (im : Int), .int .i64 rr] 26)
  have hfd := vh_find (h.still hu) x
  rw [hn] at hfd
  have hfd := Lib.hid (show Calls Try.prog 61 #[.pointer (some ⟨b, 0, none⟩), .int .i64 x] _ (RetU _ (.pointer (some ⟨b, 1 + i * 3, none⟩))) from hfd)
  have hix := idx_own5 g (o i).f.length c j hj
  have hcells := fun w' (u : Upd (fun _ => False) w w') => show w'.cell? ⟨b, 0, none⟩ = some (.slice va ks.length vc) ∧ w'.cell? ⟨b, 1 + i * 3 + 1, none⟩ = some (.int .i64 kn) ∧ w'.cell? ⟨b, 1 + i * 3 + 2, none⟩ = some (.slice (some ⟨g, 0, none⟩) (o i).f.length c) ∧ w'.cell? ⟨b0, off + kn, none⟩ = some (.slice fa (ks.getD kn []).length fc) from
    ⟨(h.still u).blk.cell 0 rfl, by rw [((h.still u).cell i hi).2.1, hkn], by rw [((h.still u).cell i hi).2.2, hF], (u.none.cell (p := ⟨b0, off + kn, none⟩) hb0).trans hck⟩
  have hGc := Lib.hid (fun w' (u : Upd (fun _ => False) w w') t (ht : t < 5) => show (∃ q, w'.cell? ⟨g, j * 5 + t, none⟩ = some q) ∧ w'.frozen? ⟨g, j * 5 + t, none⟩ = false from
    ⟨⟨_, (hG.upd u (fun h => h)).cell (j * 5 + t) (List.getElem?_eq_getElem (by omega))⟩, (hG.upd u (fun h => h)).free _⟩)
  have hjl : (j : Int) < (o i).f.length := by omega
  have hjl2 : ¬ (o i).f.length ≤ (j : Int) := by omega
  have h15' : ((o i).f.length : Int) ≤ 15 := by omega
  generalize (o i).f.length = fl at *
  obtain ⟨ga, hga⟩ : ∃ ga : Option Addr, some ⟨g, 0, none⟩ = ga := ⟨_, rfl⟩
  rw [hga] at hcells hix
  clear hga hF hG hgl
  generalize (ks.getD kn []) = kf at *
  have hcells := Lib.hid hcells
  clear h hn hus hi hfe hf hrows hc hck hkn kin1 kin2 kin3 hcap hcap1 hj hg h15
  have Hhu := Lib.hid hu; clear hu
  cases hfit : fitsV kf j ⟨a, n, re, im, rr⟩ with
  | false =>
    rw [hfit] at hft hr
    rw [if_neg (by decide)] at hr
    have fin := Lib.hid (fun w' u => hr ▸ fin3.out w' u)
    clear hr hfit
    go_enter Try.func32, Try.ntmps32
    go_wp2_with (go_at_call 61; (with_reducible refine hfd.out.mono ?_); rintro e w2 ⟨rfl, hu2⟩; have cF := (hcells.out w2 (Hhu.out.trans hu2)).2.2.1; have Hu2 := Lib.hid hu2; clear hu2)
    have q1 := fun (s : Later w2) => (hcells.out s.val ((Hhu.out.trans Hu2.out).trans s.up)).1
    have q2 := fun (s : Later w2) => (hcells.out s.val ((Hhu.out.trans Hu2.out).trans s.up)).2.1
    have q3 := fun (s : Later w2) => (hcells.out s.val ((Hhu.out.trans Hu2.out).trans s.up)).2.2.2
    have p0 := fun (s : Later w2) => (hB.out.upd (Hu2.out.trans s.up) (fun h => h)).cell 0 rfl
    have p1 := fun (s : Later w2) => (hB.out.upd (Hu2.out.trans s.up) (fun h => h)).cell 1 rfl
    have p2 := fun (s : Later w2) => (hB.out.upd (Hu2.out.trans s.up) (fun h => h)).cell 2 rfl
    have p3 := fun (s : Later w2) => (hB.out.upd (Hu2.out.trans s.up) (fun h => h)).cell 3 rfl
    have p4 := fun (s : Later w2) => (hB.out.upd (Hu2.out.trans s.up) (fun h => h)).cell 4 rfl
    have hft2 := Lib.hid (fun (s : Later w2) => (hft.out s.val ((Hhu.out.trans Hu2.out).trans s.up)).mono (fun e w'' hh => (⟨hh.1, s.up.trans hh.2⟩ : e = .returned (.bool false) ∧ Upd (fun _ => False) w2 w'')))
    refine wp_region_later (by kernel_rfl) (by kernel_rfl) ?_
    repeat (go_big_quiet_step ((go_at_call 68; exact calls_later (hft2.out _))))
    refine wpQuiet_nil ?_
    intro w4 hw4
    have u4 : Upd (fun _ => False) w2 w4 := by
      obtain ⟨s, rfl⟩ := hw4
      exact s.up
    clear hw4
    clear q1 q2 q3 p0 p1 p2 p3 p4
    go_wp2
    go_ret
    exact fin.out _ ((Hhu.out.trans Hu2.out).trans u4)
  | true =>
    rw [hfit] at hft hr
    rw [if_pos rfl] at hr
    have fin := Lib.hid (fun w' u => hr ▸ hput.out w' u)
    have hTk : (toldV ⟨a, n, re, im, rr⟩).v = .agg #[.int .i64 (toldV ⟨a, n, re, im, rr⟩).k, .int .i64 (toldV ⟨a, n, re, im, rr⟩).n, .int .u64 ((toldV ⟨a, n, re, im, rr⟩).re : Int), .int .u64 ((toldV ⟨a, n, re, im, rr⟩).im : Int), .int .i64 (toldV ⟨a, n, re, im, rr⟩).r] := rfl
    rw [hTk] at hto
    clear hTk
    generalize toldV ⟨a, n, re, im, rr⟩ = tv at *
    obtain ⟨ta, tn, tre, tim, tr⟩ := tv
    simp only at hto fin
    clear hr hfit
    go_enter Try.func32, Try.ntmps32
    go_wp2_with (go_at_call 61; (with_reducible refine hfd.out.mono ?_); rintro e w2 ⟨rfl, hu2⟩; have cF := (hcells.out w2 (Hhu.out.trans hu2)).2.2.1; have Hu2 := Lib.hid hu2; clear hu2)
    have q1 := fun (s : Later w2) => (hcells.out s.val ((Hhu.out.trans Hu2.out).trans s.up)).1
    have q2 := fun (s : Later w2) => (hcells.out s.val ((Hhu.out.trans Hu2.out).trans s.up)).2.1
    have q3 := fun (s : Later w2) => (hcells.out s.val ((Hhu.out.trans Hu2.out).trans s.up)).2.2.2
    have p0 := fun (s : Later w2) => (hB.out.upd (Hu2.out.trans s.up) (fun h => h)).cell 0 rfl
    have p1 := fun (s : Later w2) => (hB.out.upd (Hu2.out.trans s.up) (fun h => h)).cell 1 rfl
    have p2 := fun (s : Later w2) => (hB.out.upd (Hu2.out.trans s.up) (fun h => h)).cell 2 rfl
    have p3 := fun (s : Later w2) => (hB.out.upd (Hu2.out.trans s.up) (fun h => h)).cell 3 rfl
    have p4 := fun (s : Later w2) => (hB.out.upd (Hu2.out.trans s.up) (fun h => h)).cell 4 rfl
    have hft2 := Lib.hid (fun (s : Later w2) => (hft.out s.val ((Hhu.out.trans Hu2.out).trans s.up)).mono (fun e w'' hh => (⟨hh.1, s.up.trans hh.2⟩ : e = .returned (.bool true) ∧ Upd (fun _ => False) w2 w'')))
    refine wp_region_later (by kernel_rfl) (by kernel_rfl) ?_
    repeat (go_big_quiet_step ((go_at_call 68; exact calls_later (hft2.out _))))
    refine wpQuiet_nil ?_
    intro w4 hw4
    have u4 : Upd (fun _ => False) w2 w4 := by
      obtain ⟨s, rfl⟩ := hw4
      exact s.up
    clear hw4
    clear q1 q2 q3 p0 p1 p2 p3 p4 hft2 cF hft fin3
    have Hu4 := Lib.hid ((Hhu.out.trans Hu2.out).trans u4)
    have hB4 := Lib.hid (hB.out.upd (Hu2.out.trans u4) (fun h => h))
    clear u4 Hu2 Hhu hB
    obtain ⟨wm, hwm⟩ : ∃ wm : World, wm = w4 := ⟨_, rfl⟩
    subst hwm
    have r0 := (hcells.out wm Hu4.out).2.2.1
    have p0 := hB4.out.cell 0 rfl
    have p1 := hB4.out.cell 1 rfl
    have p2 := hB4.out.cell 2 rfl
    have p3 := hB4.out.cell 3 rfl
    have p4 := hB4.out.cell 4 rfl
    go_wp2_with fail
    go_region_with (go_at_call 69; (with_reducible refine (hto.out _).mono ?_); rintro e w5 ⟨rfl, hu5⟩; have s0 := (hcells.out w5 (Hu4.out.drew.trans hu5)).2.2.1; obtain ⟨⟨m0, c0⟩, f0⟩ := hGc.out w5 (Hu4.out.drew.trans hu5) 0 (by decide); obtain ⟨⟨m1, c1⟩, f1⟩ := hGc.out w5 (Hu4.out.drew.trans hu5) 1 (by decide); obtain ⟨⟨m2, c2⟩, f2⟩ := hGc.out w5 (Hu4.out.drew.trans hu5) 2 (by decide); obtain ⟨⟨m3, c3⟩, f3⟩ := hGc.out w5 (Hu4.out.drew.trans hu5) 3 (by decide); obtain ⟨⟨m4, c4⟩, f4⟩ := hGc.out w5 (Hu4.out.drew.trans hu5) 4 (by decide); simp only [Nat.add_zero] at c0 f0; have Hu5 := Lib.hid hu5; clear hu5)
    all_goals go_wp2
    all_goals go_ret
    all_goals exact fin.out _ (Hu4.out.drew.trans Hu5.out)
theorem vh_Set {w : World} {b base : Nat} {ks : List (List Int)} {o : Nat → VOb} {kv : Value} {F : Nat → Value} (h : IsVh w b base ks o kv F) (x j : Int) (v : Val) (hvo : v.ok) :
    Calls Try.prog 32 #[.pointer (some ⟨b, 0, none⟩), .int .i64 x, .int .i64 j, v.v] w (RetSt w b base ks kv F (setV ks o x j v)) := by
  cases hn : findV o x with
  | none => exact vh_Set_no h x j v hn
  | some i =>
    by_cases hj : j < 0 ∨ ((o i).f.length : Int) ≤ j
    · exact vh_Set_out h x j v hn hj
    · obtain ⟨jn, rfl⟩ : ∃ jn : Nat, j = jn := ⟨j.toNat, by omega⟩
      exact vh_Set_in h x jn v hvo hn (by omega)
end Go.Proofs.Ytcnbcidbbeadcaa

/- Laws of chapter 11: what they share. -/

namespace Go.Proofs.Ytcnbcidbbeadcaa
open Go.RowKit Go.Deep
set_option linter.unusedVariables false

/-- A bool, and nothing that was there has turned. -/
def RetB (w : World) (e : Ending) (w' : World) : Prop := ∃ b : Bool, e = .returned (.bool b) ∧ Upd (fun _ => False) w w'

set_option maxRecDepth 100000 in
set_option maxHeartbeats 1000000 in
theorem light11 (v : Value) (ks : List (List Int)) (w : World) (hM : MatIn w v ks) : Calls Try.prog 15 #[v] w (RetB w) := by
  obtain ⟨H, hR, hE⟩ := hM
  have hX := Lib.hid hR
  obtain ⟨va, vc, rfl, hc1, hc2, -⟩ := hR
  have l1 : (ks.length : Int) ≤ 9223372036854775807 := by unfold maxLen at hc2; omega
  have HhE := Lib.hid hE; clear hE
  clear hc1 hc2
  go_enter Try.func15, Try.ntmps15
  go_wp2
  go_loopw [7] (fun i wr => ∃ k : Nat, i = .int .i64 k ∧ k ≤ ks.length ∧ Upd (fun _ => False) w wr) (fun i _ => (ks.length - intOf i).toNat)
  case atStart => exact ⟨0, rfl, Nat.zero_le _, Upd.refl _ _⟩
  case round =>
    obtain ⟨k, rfl, hk, hu⟩ := hrel
    by_cases hkl : k = ks.length
    · have e1 : ¬ ((k : Int) < ks.length) := by omega
      have fin : RetB w (.returned (.bool true)) wr := ⟨true, rfl, hu⟩
      have Hfin := Lib.hid fin; clear fin
      clear hkl hu
      go_wp2
      go_ret
      exact Hfin.out
    · have e1 : (k : Int) < ks.length := by omega
      have hk2 : k < ks.length := by omega
      obtain ⟨b0, off, hix, hb0, hcc⟩ := hX.out.index (P := Try.prog) Try.underlying22 (by kernel_rfl) (by kernel_rfl) hk2
      simp only [Nat.mul_one] at hix hcc
      have hrow : wr.cell? ⟨b0, off + k, none⟩ = some (H k) := (hu.none.cell (p := ⟨b0, off + k, none⟩) hb0).trans (hcc 0 (by decide))
      obtain ⟨ra, rc, hrv, hrl, hrm, -⟩ := (show RowsIn w (H k) 1 (ks.getD k []).length _ from HhE.out k hk2)
      rw [hrv] at hrow
      have hll : ((ks.getD k []).length : Int) ≤ 9223372036854775807 := by unfold maxLen at hrm; omega
      clear hrv hrl hrm hcc hkl
      generalize (ks.getD k []).length = n at *
      have fin := Lib.hid (fun o => show RetB w (.returned (.bool false)) (wr.alloc o) from ⟨false, rfl, hu.alloc o⟩)
      have Hhu := Lib.hid hu; clear hu
      by_cases h20 : (20 : Int) ≤ k
      · go_wp2
        go_ret
        exact fin.out _
      · have h20' : ¬ (k : Int) ≥ 20 := by omega
        by_cases h30 : (30 : Int) < n
        · go_wp2
          go_ret
          exact fin.out _
        · go_wp2
          go_roundw
          case rel => exact ⟨k + 1, by go_num, by omega, Hhu.out.alloc _⟩
          case measure => simp [intOf]; omega

theorem encO_awake : encO [[1, 3]] 0 [⟨1, 7, 0, 0, 0⟩, zeroV] 3 = ([makeN 0 3 3, 7, 0], 0) := by rfl
theorem ints_blk {w : World} {b : Nat} {xs : List Int} {T : TypeId} (hB : Blk w b (ints xs) T) (hl : xs.length ≤ 1000) : IntsR w (.slice (some ⟨b, 0, none⟩) xs.length xs.length) .i64 xs := by
  refine ⟨_, _, rfl, Nat.le_refl _, by unfold maxLen; omega, fun _ => ⟨b, 0, rfl, hB.lt, fun i hi j hj => ?_⟩⟩
  obtain rfl : j = 0 := by omega
  rw [show 0 + i * 1 + 0 = i from by omega]
  exact hB.cell i (by simp [ints, List.getD, hi])
theorem mat_blk {w : World} {b : Nat} {rv : Value} {xs : List Int} {T : TypeId} (hB : Blk w b [rv] T) (h : IntsR w rv .i64 xs) : MatIn w (.slice (some ⟨b, 0, none⟩) 1 1) [xs] := by
  refine ⟨fun _ => rv, ⟨_, _, rfl, Nat.le_refl _, by decide, fun _ => ⟨b, 0, rfl, hB.lt, fun i hi j hj => ?_⟩⟩, fun i hi => ?_⟩
  · have hi : i < 1 := hi
    obtain rfl : j = 0 := by omega
    obtain rfl : i = 0 := by omega
    exact hB.cell 0 rfl
  · obtain rfl : i = 0 := by
      simp at hi
      exact hi
    exact h
theorem vals_blk {w : World} {b : Nat} {x y : Val} {T : TypeId}
    (hB : Blk w b [.int .i64 x.k, .int .i64 x.n, .int .u64 (x.re : Int), .int .u64 (x.im : Int), .int .i64 x.r, .int .i64 y.k, .int .i64 y.n, .int .u64 (y.re : Int), .int .u64 (y.im : Int), .int .i64 y.r] T) :
    ValsR w (.slice (some ⟨b, 0, none⟩) 2 2) [x, y] := by
  refine ⟨_, _, rfl, Nat.le_refl _, by decide, fun _ => ⟨b, 0, rfl, hB.lt, fun i hi j hj => ?_⟩⟩
  have hi : i < 2 := hi
  match i, hi, j, hj with
  | 0, _, 0, _ => exact hB.cell 0 rfl
  | 0, _, 1, _ => exact hB.cell 1 rfl
  | 0, _, 2, _ => exact hB.cell 2 rfl
  | 0, _, 3, _ => exact hB.cell 3 rfl
  | 0, _, 4, _ => exact hB.cell 4 rfl
  | 1, _, 0, _ => exact hB.cell 5 rfl
  | 1, _, 1, _ => exact hB.cell 6 rfl
  | 1, _, 2, _ => exact hB.cell 7 rfl
  | 1, _, 3, _ => exact hB.cell 8 rfl
  | 1, _, 4, _ => exact hB.cell 9 rfl
theorem awake_args (w : World) : ∃ W1, W1 = ((w.alloc (.cells #[.int .i64 1, .int .i64 3] 3)).alloc (.cells #[.slice (some ⟨w.heap.size, 0, none⟩) 2 2] 68)).alloc (.cells #[.int .i64 1, .int .i64 7, .int .u64 0, .int .u64 0, .int .i64 0, .int .i64 0, .int .i64 0, .int .u64 0, .int .u64 0, .int .i64 0] 26) ∧
    MatIn W1 (.slice (some ⟨w.heap.size + 1, 0, none⟩) 1 1) [[1, 3]] ∧ ValsR W1 (.slice (some ⟨w.heap.size + 1 + 1, 0, none⟩) 2 2) [⟨1, 7, 0, 0, 0⟩, zeroV] ∧ Upd (fun _ => False) w W1 := by
  refine ⟨_, rfl, ?_, ?_, (((Upd.refl _ _).alloc _).alloc _).alloc _⟩
  · refine mat_blk (T := 68) (rv := .slice (some ⟨w.heap.size, 0, none⟩) 2 2) ?_ ?_
    · have := Blk.new (w.alloc (.cells #[.int .i64 1, .int .i64 3] 3)) [.slice (some ⟨w.heap.size, 0, none⟩) 2 2] 68
      rw [alloc_size] at this
      exact this.alloc _
    · exact ints_blk (T := 3) (xs := [1, 3]) (((Blk.new w [.int .i64 1, .int .i64 3] 3).alloc _).alloc _) (by decide)
  · have := Blk.new ((w.alloc (.cells #[.int .i64 1, .int .i64 3] 3)).alloc (.cells #[.slice (some ⟨w.heap.size, 0, none⟩) 2 2] 68)) [.int .i64 1, .int .i64 7, .int .u64 0, .int .u64 0, .int .i64 0, .int .i64 0, .int .i64 0, .int .u64 0, .int .u64 0, .int .i64 0] 26
    rw [alloc_size, alloc_size] at this
    exact vals_blk (x := ⟨1, 7, 0, 0, 0⟩) (y := zeroV) this

set_option maxRecDepth 100000 in
set_option maxHeartbeats 1000000 in
theorem awake11 (w : World) : Calls Try.prog 16 #[] w (TrueUpd w) := by
  obtain ⟨W1, hW1, hM, hV, hu⟩ := awake_args w
  have he : Calls Try.prog 17 #[.slice (some ⟨w.heap.size + 1, 0, none⟩) 1 1, .int .i64 0, .slice (some ⟨w.heap.size + 1 + 1, 0, none⟩) 2 2, .int .u64 3] W1 (fun e w' => ∃ va c, e = .returned (.tuple #[.slice va 3 c, .int .i64 0]) ∧ WordsR w' (.slice va 3 c) [makeN 0 3 3, 7, 0] ∧ Upd (fun _ => False) W1 w') := by
    have := object_Encode _ _ [[1, 3]] 0 [⟨1, 7, 0, 0, 0⟩, zeroV] 3 (by decide) (by
      intro x hx
      simp only [List.mem_cons, List.not_mem_nil, or_false] at hx
      rcases hx with rfl | rfl
      · exact ⟨by unfold I64; decide, by unfold I64; decide, by decide, by decide, by unfold I64; decide⟩
      · exact zeroV_ok) W1 hM hV
    rw [encO_awake] at this
    exact this.mono (fun e w' ⟨u, va, c, h1, h2⟩ => ⟨va, c, h1, h2, u⟩)
  generalize makeN 0 3 3 = hd at *
  rw [hW1] at he
  have he := Lib.hid he
  have hu := Lib.hid hu
  clear hM hV
  go_enter Try.func16, Try.ntmps16
  go_wp2_with (go_at_call 17; (with_reducible refine he.out.mono ?_); rintro e w2 ⟨va, c, rfl, hW, hu2⟩; obtain ⟨b1, o1, hx1, -, hc1⟩ := hW.1.index (P := Try.prog) Try.underlying29 (by kernel_rfl) (by kernel_rfl) (i := 1) (by simp); obtain ⟨b2, o2, hx2, -, hc2⟩ := hW.1.index (P := Try.prog) Try.underlying29 (by kernel_rfl) (by kernel_rfl) (i := 2) (by simp); have hx1 : ∀ w', (Instr.indexAt 29 (.slice va 3 c) (.int .i64 1)).run Try.prog w' = .ok (.pointer (some ⟨b1, o1 + 1, none⟩)) w' := hx1; have hx2 : ∀ w', (Instr.indexAt 29 (.slice va 3 c) (.int .i64 2)).run Try.prog w' = .ok (.pointer (some ⟨b2, o2 + 2, none⟩)) w' := hx2; have c1 : w2.cell? ⟨b1, o1 + 1, none⟩ = some (.int .u64 7) := hc1 0 (by decide); have c2 : w2.cell? ⟨b2, o2 + 2, none⟩ = some (.int .u64 0) := hc2 0 (by decide); have HU := Lib.hid hu2; clear hc1 hc2 hW hu2)
  go_ret
  exact ⟨rfl, hu.out.trans (hW1 ▸ HU.out)⟩
end Go.Proofs.Ytcnbcidbbeadcaa

/- The kinds of chapter 14's laws. -/

namespace Go.Proofs.Ytcnbcidbbeadcaa
open Go.RowKit Go.Deep
set_option linter.unusedVariables false

def ks14 : List (List Int) := [[1], [3, 1, 3], [2, 3], []]
theorem kinds_mat (w : World) : MatIn ((((w.alloc (.cells #[.int .i64 1] 3)).alloc (.cells #[.int .i64 3, .int .i64 1, .int .i64 3] 3)).alloc (.cells #[.int .i64 2, .int .i64 3] 3)).alloc
    (.cells #[.slice (some ⟨w.heap.size, 0, none⟩) 1 1, .slice (some ⟨w.heap.size + 1, 0, none⟩) 3 3, .slice (some ⟨w.heap.size + 1 + 1, 0, none⟩) 2 2, .slice none 0 0] 68)) (.slice (some ⟨w.heap.size + 1 + 1 + 1, 0, none⟩) 4 4) ks14 := by
  have h1 := (((Blk.new w [.int .i64 1] 3).alloc (.cells #[.int .i64 3, .int .i64 1, .int .i64 3] 3)).alloc (.cells #[.int .i64 2, .int .i64 3] 3)).alloc (.cells #[.slice (some ⟨w.heap.size, 0, none⟩) 1 1, .slice (some ⟨w.heap.size + 1, 0, none⟩) 3 3, .slice (some ⟨w.heap.size + 1 + 1, 0, none⟩) 2 2, .slice none 0 0] 68)
  have h2 := Blk.new (w.alloc (.cells #[.int .i64 1] 3)) [.int .i64 3, .int .i64 1, .int .i64 3] 3
  rw [alloc_size] at h2
  have h2 := (h2.alloc (.cells #[.int .i64 2, .int .i64 3] 3)).alloc (.cells #[.slice (some ⟨w.heap.size, 0, none⟩) 1 1, .slice (some ⟨w.heap.size + 1, 0, none⟩) 3 3, .slice (some ⟨w.heap.size + 1 + 1, 0, none⟩) 2 2, .slice none 0 0] 68)
  have h3 := Blk.new ((w.alloc (.cells #[.int .i64 1] 3)).alloc (.cells #[.int .i64 3, .int .i64 1, .int .i64 3] 3)) [.int .i64 2, .int .i64 3] 3
  rw [alloc_size, alloc_size] at h3
  have h3 := h3.alloc (.cells #[.slice (some ⟨w.heap.size, 0, none⟩) 1 1, .slice (some ⟨w.heap.size + 1, 0, none⟩) 3 3, .slice (some ⟨w.heap.size + 1 + 1, 0, none⟩) 2 2, .slice none 0 0] 68)
  have h4 := Blk.new (((w.alloc (.cells #[.int .i64 1] 3)).alloc (.cells #[.int .i64 3, .int .i64 1, .int .i64 3] 3)).alloc (.cells #[.int .i64 2, .int .i64 3] 3)) [.slice (some ⟨w.heap.size, 0, none⟩) 1 1, .slice (some ⟨w.heap.size + 1, 0, none⟩) 3 3, .slice (some ⟨w.heap.size + 1 + 1, 0, none⟩) 2 2, .slice none 0 0] 68
  rw [alloc_size, alloc_size, alloc_size] at h4
  refine ⟨fun i => ([.slice (some ⟨w.heap.size, 0, none⟩) 1 1, .slice (some ⟨w.heap.size + 1, 0, none⟩) 3 3, .slice (some ⟨w.heap.size + 1 + 1, 0, none⟩) 2 2, .slice none 0 0] : List Value).getD i undef, ⟨_, _, rfl, Nat.le_refl _, by decide, fun _ => ⟨_, 0, rfl, h4.lt, fun i hi j hj => ?_⟩⟩, fun i hi => ?_⟩
  · have hi : i < 4 := hi
    obtain rfl : j = 0 := by omega
    match i, hi with
    | 0, _ => exact h4.cell 0 rfl
    | 1, _ => exact h4.cell 1 rfl
    | 2, _ => exact h4.cell 2 rfl
    | 3, _ => exact h4.cell 3 rfl
  · have hi : i < 4 := hi
    match i, hi with
    | 0, _ => exact ints_blk (xs := [1]) h1 (by decide)
    | 1, _ => exact ints_blk (xs := [3, 1, 3]) h2 (by decide)
    | 2, _ => exact ints_blk (xs := [2, 3]) h3 (by decide)
    | 3, _ => exact ⟨none, 0, rfl, Nat.le_refl _, by decide, fun h => absurd (show 0 < 0 from h) (by decide)⟩
def RetMat (w : World) (tt : List (List Int)) (e : Ending) (w' : World) : Prop := ∃ v, e = .returned v ∧ MatIn w' v tt ∧ Upd (fun _ => False) w w'
set_option maxRecDepth 100000 in
theorem kinds14 (w : World) : Calls Try.prog 24 #[] w (RetMat w ks14) := by
  have hm := Lib.hid (kinds_mat w)
  go_enter Try.func24, Try.ntmps24
  go_wp2
  go_ret
  exact ⟨_, rfl, hm.out, ((((Upd.refl _ _).alloc _).alloc _).alloc _).alloc _⟩
end Go.Proofs.Ytcnbcidbbeadcaa

/- awake of chapter 14's laws. -/




namespace Go.Proofs.Ytcnbcidbbeadcaa
open Go.RowKit Go.Deep
set_option linter.unusedVariables false

theorem ref14 (n : Int) (w : World) : Calls Try.prog 62 #[.int .i64 n] w (RetU w (.agg #[.int .i64 3, .int .i64 0, .int .u64 0, .int .u64 0, .int .i64 n])) := by
  have hu : Upd (fun _ => False) w (w.alloc (.cells #[.int .i64 3, .int .i64 0, .int .u64 0, .int .u64 0, .int .i64 n] 26)) := (Upd.refl _ _).alloc _
  have Hhu := Lib.hid hu; clear hu
  go_enter Try.func62, Try.ntmps62
  go_wp2
  first
    | (go_ret; exact ⟨rfl, Upd.refl _ _⟩)
    | (refine bodyPost_ret (v := .agg #[.int .i64 3, .int .i64 0, .int .u64 0, .int .u64 0, .int .i64 n]) ?_ rfl ?_
       · rw [results_cell1 rfl]; go_simp
       · exact ⟨rfl, Hhu.out⟩)
def no14 : Nat → VOb := fun _ => noOb
def aw1 : Nat → VOb := (makeV ks14 no14 0).1
def aw2 : Nat → VOb := (makeV ks14 aw1 1).1
def aw3 : Nat → VOb := (setV ks14 aw2 (-2) 2 ⟨3, 0, 0, 0, -1⟩).1
set_option maxRecDepth 100000
theorem aw_m1 : makeV ks14 no14 0 = (aw1, -1, 0) := by kernel_rfl
theorem aw_m2 : makeV ks14 aw1 1 = (aw2, -2, 0) := by kernel_rfl
theorem aw_s : setV ks14 aw2 (-2) 2 ⟨3, 0, 0, 0, -1⟩ = (aw3, 0) := by kernel_rfl
theorem aw_r : refsV aw3 (-2) = [-1] := by kernel_rfl
theorem aw_k : goneTo aw3 (keepV aw3 [-2]) 64 = 0 := by kernel_rfl
theorem aw_l : (allV (dropV aw3 (keepV aw3 [-2]) 64)).length = 2 := by kernel_rfl
theorem mat_shape {w : World} {v : Value} {tt : List (List Int)} (h : MatIn w v tt) : ∃ a c, v = .slice a tt.length c := by
  obtain ⟨H, ⟨a, c, h1, -⟩, -⟩ := h
  exact ⟨a, c, h1⟩
theorem v3_ok : (⟨3, 0, 0, 0, -1⟩ : Val).ok := ⟨by show I64 3; unfold I64; omega, by show I64 0; unfold I64; omega, by decide, by decide, by show I64 (-1); unfold I64; omega⟩
/-- What is known between the calls of awake. -/
structure AwSt (w : World) (b base : Nat) (kv : Value) (o : Nat → VOb) (wr : World) : Prop where
  hp : ∃ F, IsVh wr b base ks14 o kv F
  lo : w.heap.size ≤ b
  up : Upd (fun _ => False) w wr
theorem AwSt.still {w : World} {b base : Nat} {kv : Value} {o : Nat → VOb} {wr w' : World} (h : AwSt w b base kv o wr) (u : Upd (fun _ => False) wr w') : AwSt w b base kv o w' := by
  obtain ⟨F, hp⟩ := h.hp
  exact ⟨⟨F, hp.still u⟩, h.lo, h.up.trans u⟩
theorem AwSt.next {w : World} {b base : Nat} {kv : Value} {o o' : Nat → VOb} {wr w' : World} (h : AwSt w b base kv o wr) (hp : ∃ F, IsVh w' b base ks14 o' kv F) (u : Upd (fun j => j = b) wr w') : AwSt w b base kv o' w' :=
  ⟨hp, h.lo, h.up.own u (fun j e => by have := h.lo; omega)⟩
theorem AwSt.next2 {w : World} {b base : Nat} {kv : Value} {o o' : Nat → VOb} {wr w' : World} (h : AwSt w b base kv o wr) (hp : ∃ F, IsVh w' b base ks14 o' kv F) (u : Upd (fun j => base ≤ j) wr w') : AwSt w b base kv o' w' := by
  obtain ⟨F, h2⟩ := h.hp
  exact ⟨hp, h.lo, h.up.own u (fun j e => by have := h.lo; have := h2.low; omega)⟩
theorem ex1 {α : Type} {A B : α → Prop} (h : ∃ x, A x ∧ B x) : ∃ x, A x := by
  obtain ⟨x, h1, -⟩ := h
  exact ⟨x, h1⟩
theorem AwSt.make {w : World} {b base : Nat} {kv : Value} {o : Nat → VOb} {wr : World} (h : AwSt w b base kv o wr) (k : Int) : Calls Try.prog 25 #[.pointer (some ⟨b, 0, none⟩), .int .i64 k] wr (fun e w' => e = .returned (.tuple #[.int .i64 (makeV ks14 o k).2.1, .int .i64 (makeV ks14 o k).2.2]) ∧ AwSt w b base kv (makeV ks14 o k).1 w') := by
  obtain ⟨F, hp⟩ := h.hp
  exact (vh_Make hp k).mono (fun e w' hh => ⟨hh.1, h.next (ex1 hh.2.1) hh.2.2⟩)
theorem AwSt.set {w : World} {b base : Nat} {kv : Value} {o : Nat → VOb} {wr : World} (h : AwSt w b base kv o wr) (x j : Int) (v : Val) (hv : v.ok) : Calls Try.prog 32 #[.pointer (some ⟨b, 0, none⟩), .int .i64 x, .int .i64 j, v.v] wr (fun e w' => e = .returned (.int .i64 (setV ks14 o x j v).2) ∧ AwSt w b base kv (setV ks14 o x j v).1 w') := by
  obtain ⟨F, hp⟩ := h.hp
  exact (vh_Set hp x j v hv).mono (fun e w' hh => ⟨hh.1, h.next2 ⟨F, hh.2.1⟩ (hh.2.2.mono (fun j hj e => by obtain ⟨i, hi, e⟩ := e; exact ((hp.row i hi).lt j e).1))⟩)
theorem AwSt.refs {w : World} {b base : Nat} {kv : Value} {o : Nat → VOb} {wr : World} (h : AwSt w b base kv o wr) (x : Int) : Calls Try.prog 37 #[.pointer (some ⟨b, 0, none⟩), .int .i64 x] wr (RetNums wr (refsV o x)) := by
  obtain ⟨F, hp⟩ := h.hp
  exact vh_Refs hp x
theorem AwSt.keep {w : World} {b base : Nat} {kv : Value} {o : Nat → VOb} {wr : World} (h : AwSt w b base kv o wr) (v : Value) (l : List Int) (hl : IntsR wr v .i64 l) : Calls Try.prog 44 #[.pointer (some ⟨b, 0, none⟩), v] wr (fun e w' => e = .returned (.int .i64 (goneTo o (keepV o l) 64 : Int)) ∧ AwSt w b base kv (dropV o (keepV o l) 64) w') := by
  obtain ⟨F, hp⟩ := h.hp
  exact (vh_Keep hp v l hl).mono (fun e w' hh => ⟨hh.1, h.next (ex1 hh.2.1) hh.2.2⟩)
theorem AwSt.len {w : World} {b base : Nat} {kv : Value} {o : Nat → VOb} {wr : World} (h : AwSt w b base kv o wr) : Calls Try.prog 27 #[.pointer (some ⟨b, 0, none⟩)] wr (RetU wr (.int .i64 ((allV o).length : Int))) := by
  obtain ⟨F, hp⟩ := h.hp
  exact vh_Len hp
theorem AwSt.new {w w1 : World} {v : Value} (hm : MatIn w1 v ks14) (hu : Upd (fun _ => False) w w1) : Calls Try.prog 23 #[v] w1 (fun e w' => ∃ b base kv, e = .returned (.pointer (some ⟨b, 0, none⟩)) ∧ AwSt w b base kv no14 w') := by
  refine (vh_New v ks14 w1 hm (by decide) (by decide)).mono (fun e w' hh => ?_)
  obtain ⟨b, base, kv, h1, h2, h3, h4⟩ := hh
  exact ⟨b, base, kv, h1, ⟨_, h3⟩, Nat.le_trans hu.size h2, hu.trans h4⟩
set_option maxHeartbeats 2000000 in
theorem awake14 (w : World) : Calls Try.prog 28 #[] w (RetU w (.bool true)) := by
  have k14 := Lib.hid kinds14
  have hN := Lib.hid (fun w1 v hm hu => AwSt.new (w := w) (w1 := w1) (v := v) hm hu)
  have hM1 := fun b base kv wr (h : AwSt w b base kv no14 wr) => h.make 0
  rw [aw_m1] at hM1
  have hM1 := Lib.hid hM1
  have hM2 := fun b base kv wr (h : AwSt w b base kv aw1 wr) => h.make 1
  rw [aw_m2] at hM2
  have hM2 := Lib.hid hM2
  have hS := fun b base kv wr (h : AwSt w b base kv aw2 wr) => h.set (-2) 2 ⟨3, 0, 0, 0, -1⟩ v3_ok
  rw [aw_s] at hS
  have hS := Lib.hid (show ∀ b base kv wr, AwSt w b base kv aw2 wr → Calls Try.prog 32 #[.pointer (some ⟨b, 0, none⟩), .int .i64 (-2), .int .i64 2, .agg #[.int .i64 3, .int .i64 0, .int .u64 0, .int .u64 0, .int .i64 (-1)]] wr (fun e w' => e = .returned (.int .i64 0) ∧ AwSt w b base kv aw3 w') from hS)
  have hR := fun b base kv wr (h : AwSt w b base kv aw3 wr) => h.refs (-2)
  rw [aw_r] at hR
  have hR := Lib.hid hR
  have hK := fun b base kv wr (h : AwSt w b base kv aw3 wr) v hl => h.keep v [-2] hl
  rw [aw_k] at hK
  have hK := Lib.hid hK
  have hL := fun b base kv wr (h : AwSt w b base kv (dropV aw3 (keepV aw3 [-2]) 64) wr) => h.len
  rw [aw_l] at hL
  have hL := Lib.hid hL
  have hr := Lib.hid (ref14 (-1))
  generalize dropV aw3 (keepV aw3 [-2]) 64 = aw4 at *
  generalize aw3 = aw3 at *
  generalize aw2 = aw2 at *
  generalize aw1 = aw1 at *
  generalize no14 = no14 at *
  go_enter Try.func28, Try.ntmps28
  go_wp2_with (first
    | (go_at_call 24; (with_reducible refine (k14.out _).mono ?_); rintro e w1 ⟨v, rfl, hm1, hu1⟩; obtain ⟨va, vc, rfl⟩ := mat_shape hm1; have hN2 := Lib.hid (hN.out w1 _ hm1 hu1); clear hm1 hu1)
    | (go_at_call 23; (with_reducible refine hN2.out.mono ?_); rintro e w2 ⟨b, base, kv, rfl, h2⟩; have hM1b := Lib.hid (hM1.out _ _ _ _ h2); clear hN2 h2)
    | (go_at_call 25; (with_reducible refine hM1b.out.mono ?_); rintro e w3 ⟨rfl, h3⟩; have hM2b := Lib.hid (hM2.out _ _ _ _ h3); clear h3 hM1b)
    | (go_at_call 25; (with_reducible refine hM2b.out.mono ?_); rintro e w4 ⟨rfl, h4⟩; have H4 := Lib.hid h4; clear h4 hM2b)
    | (go_at_call 62; (with_reducible refine (hr.out _).mono ?_); rintro e w5 ⟨rfl, hu5⟩; have H5 := Lib.hid (hS.out _ _ _ _ (H4.out.still hu5)); clear hu5)
    | (go_at_call 32; (with_reducible refine H5.out.mono ?_); rintro e w6 ⟨rfl, h6⟩; have H6 := Lib.hid h6; have R6 := Lib.hid (hR.out _ _ _ _ h6); clear h6)
    | (go_at_call 37; (with_reducible refine R6.out.mono ?_); rintro e w7 ⟨ra, rc, rfl, ho7, hu7⟩; have H7 := Lib.hid (H6.out.still hu7); have K7 := Lib.hid (show Calls Try.prog 44 #[.pointer (some ⟨b, 0, none⟩), .slice (some ⟨w7.heap.size, 0, none⟩) 1 1] (w7.alloc (.cells #[.int .i64 (-2)] 3)) (fun e w' => e = .returned (.int .i64 0) ∧ AwSt w b base kv aw4 w') from hK.out _ _ _ _ (H7.out.still ((Upd.refl _ _).alloc _)) _ (ints_blk (xs := [-2]) (Blk.new w7 [.int .i64 (-2)] 3) (by decide))); clear ho7 hu7)
    | (go_at_call 44; (with_reducible refine K7.out.mono ?_); rintro e w8 ⟨rfl, h8⟩; have H8 := Lib.hid h8; have L8 := Lib.hid (hL.out _ _ _ _ h8); clear h8)
    | (go_at_call 27; (with_reducible refine L8.out.mono ?_); rintro e w9 ⟨rfl, hu9⟩; have H9 := Lib.hid (H8.out.still hu9); clear hu9))
  go_ret
  exact ⟨rfl, H9.out.up⟩
end Go.Proofs.Ytcnbcidbbeadcaa

