/- A heap of volatile objects: Set that reaches a field. -/
import Derived.Test.YtcnbcidbbeadcaaVhX
import Derived.BigQuiet
import Derived.Deep.RegionWith
namespace Go.Proofs.Ytcnbcidbbeadcaa
open Go.RowKit Go.Deep
set_option linter.unusedVariables false

theorem toldV_ok {v : Val} (h : v.ok) : (toldV v).ok := by
  obtain ⟨h1, h2, h3, h4, h5⟩ := h
  obtain ⟨z1, z2, z3, z4, z5⟩ := zeroV_ok
  unfold toldV
  split
  · exact ⟨by show I64 1; unfold I64; omega, h2, z3, z4, z5⟩
  · split
    · exact ⟨by show I64 2; unfold I64; omega, z2, h3, h4, z5⟩
    · split
      · exact ⟨by show I64 3; unfold I64; omega, z2, z3, z4, h5⟩
      · exact ⟨z1, z2, z3, z4, z5⟩
theorem idx_own5 (g n c j : Nat) (hj : j < n) (w' : World) : (Instr.indexAt 23 (.slice (some ⟨g, 0, none⟩) n c) (.int .i64 (j : Int))).run Try.prog w' = .ok (.pointer (some ⟨g, j * 5, none⟩)) w' := by
  have hT' : Try.prog.underlying 23 = some (.slice (Try.prog.elem 23)) := by rw [show Try.prog.elem 23 = 26 from by kernel_rfl]; exact Try.underlying23
  rw [run_indexAt_slice w' 23 _ n c .i64 j hT', if_pos ⟨by omega, by omega⟩, show Try.prog.elem 23 = 26 from by kernel_rfl]
  obtain ⟨inf, hinf, hsz⟩ := Option.map_eq_some_iff.1 (show (Try.prog.info? 26).map (·.size) = some 5 from by kernel_rfl)
  simp [sizeOf, typeInfo, hinf, hsz, Addr.add]
  try omega
/-- A field's cells are set. -/
theorem st_put {w w2 w5 : World} {b base : Nat} {ks : List (List Int)} {o : Nat → VOb} {kv : Value} {F : Nat → Value} (h : IsVh w b base ks o kv F) (u : Upd (fun _ => False) w w5) {i : Nat} (hi : i < 64) (hus : (o i).used = true) (j : Nat) (hj : j < (o i).f.length) (x : Val) (hx : x.ok)
    {g c : Nat} (hF : F i = .slice (some ⟨g, 0, none⟩) (o i).f.length c) (hg : base ≤ g) :
    RetSt w b base ks kv F (setO o i ⟨true, (o i).k, (o i).f.set j x⟩, 0) (.returned (.int .i64 0)) (((((w5.setCell ⟨g, j * 5, none⟩ (.int .i64 x.k)).setCell ⟨g, j * 5 + 1, none⟩ (.int .i64 x.n)).setCell ⟨g, j * 5 + 2, none⟩ (.int .u64 (x.re : Int))).setCell ⟨g, j * 5 + 3, none⟩ (.int .u64 (x.im : Int))).setCell ⟨g, j * 5 + 4, none⟩ (.int .i64 x.r)) := by
  have h5 := h.still u
  have hr := h5.row i hi
  rw [hF] at hr
  have e := cellsV_set (o i).f j hj x
  have r1 := ownsRow_setCell hr (j * 5 + 0) (by omega) (.int .i64 x.k)
  have r2 := ownsRow_setCell r1 (j * 5 + 1) (by omega) (.int .i64 x.n)
  have r3 := ownsRow_setCell r2 (j * 5 + 2) (by omega) (.int .u64 (x.re : Int))
  have r4 := ownsRow_setCell r3 (j * 5 + 3) (by omega) (.int .u64 (x.im : Int))
  have r5 := ownsRow_setCell r4 (j * 5 + 4) (by omega) (.int .i64 x.r)
  rw [e] at r5
  have u5 := (((((Upd.refl (fun k => k = g) w5).at (j * 5) (.int .i64 x.k)).at (j * 5 + 1) (.int .i64 x.n)).at (j * 5 + 2) (.int .u64 (x.re : Int))).at (j * 5 + 3) (.int .u64 (x.im : Int))).at (j * 5 + 4) (.int .i64 x.r)
  refine ⟨rfl, h5.write hi hus j x hx hF hg u5 (by rw [hF]; exact r5), ?_⟩
  exact (u.mono (fun _ _ e => e.elim)).trans (u5.mono (fun k _ e => by subst e; exact ⟨i, hi, by rw [hF]; rfl⟩))
/-- The row of an object that has a field. -/
theorem IsVh.rowAt {w : World} {b base : Nat} {ks : List (List Int)} {o : Nat → VOb} {kv : Value} {F : Nat → Value} (h : IsVh w b base ks o kv F) {i : Nat} (hi : i < 64) (hp : 0 < (o i).f.length) :
    ∃ g c, F i = .slice (some ⟨g, 0, none⟩) (o i).f.length c ∧ base ≤ g ∧ ∃ l, Blk w g l 26 ∧ (o i).f.length * 5 ≤ l.length := by
  rcases (h.row i hi).2 with ⟨hv, h0⟩ | ⟨g, cap, cur, hv, hg, hh, hn, hcap, hsz, htake⟩
  · omega
  · refine ⟨g, cap, hv, hg, cur.toList, hh, ?_⟩
    have : cur.size = cap * 5 := hsz
    have h3 : (o i).f.length * 5 ≤ cap * 5 := Nat.mul_le_mul_right 5 hn
    simpa [this] using h3
set_option maxRecDepth 100000 in
set_option maxHeartbeats 4000000 in
theorem vh_Set_in {w : World} {b base : Nat} {ks : List (List Int)} {o : Nat → VOb} {kv : Value} {F : Nat → Value} (h : IsVh w b base ks o kv F) (x : Int) (j : Nat) (v : Val) (hvo : v.ok) {i : Nat} (hn : findV o x = some i) (hj : j < (o i).f.length) :
    Calls Try.prog 32 #[.pointer (some ⟨b, 0, none⟩), .int .i64 x, .int .i64 j, v.v] w (RetSt w b base ks kv F (setV ks o x j v)) := by
  obtain ⟨r, hr⟩ : ∃ r, setV ks o x j v = r := ⟨_, rfl⟩
  rw [hr]
  unfold setV at hr
  rw [hn] at hr
  simp only at hr
  rw [if_neg (by omega), show (j : Int).toNat = j from by omega] at hr
  obtain ⟨hi, hus, -⟩ := findV_some hn
  obtain ⟨g, c, hF, hg, l, hG, hgl⟩ := h.rowAt hi (by omega)
  have h15 := h.few i hi
  obtain ⟨kin1, kin2, kin3⟩ := h.kin i hi hus
  obtain ⟨kn, hkn⟩ : ∃ kn : Nat, (o i).k = kn := ⟨(o i).k.toNat, by omega⟩
  rw [hkn, show (kn : Int).toNat = kn from by omega] at hr
  have hy : kn < ks.length := by omega
  obtain ⟨H, hR, hrows⟩ := h.kinds w (Upd.refl _ _)
  have hX := Lib.hid hR
  obtain ⟨va, vc, rfl, hcap1, hcap, -⟩ := hR
  have l1 : (ks.length : Int) ≤ 9223372036854775807 := by unfold maxLen at hcap; omega
  obtain ⟨b0, off, hixk, hb0, hc⟩ := hX.out.index (P := Try.prog) Try.underlying22 (by kernel_rfl) (by kernel_rfl) hy
  simp only [Nat.mul_one] at hixk hc
  have hck : w.cell? ⟨b0, off + kn, none⟩ = some (H kn) := hc 0 (by decide)
  have hf := hrows kn hy
  obtain ⟨fa, fc, hfe⟩ : ∃ fa fc, H kn = .slice fa (ks.getD kn []).length fc := by
    obtain ⟨fa, fc, h1, -⟩ := hf
    exact ⟨fa, fc, h1⟩
  rw [hfe] at hf hck
  have hput := fun w' (u : Upd (fun _ => False) w w') => st_put (w2 := w) h u hi hus j hj (toldV v) (toldV_ok hvo) hF hg
  rw [hkn] at hput
  have hput := Lib.hid hput
  have hft := Lib.hid (fun w' (u : Upd (fun _ => False) w w') => vh_Fits _ _ (j : Int) v w' (ints_upd hf u))
  have hto := Lib.hid (fun w' => vh_told v w')
  have fin3 := Lib.hid (fun w' (u : Upd (fun _ => False) w w') => st_same h 3 u)
  obtain ⟨a, n, re, im, rr⟩ := v
  show Calls _ _ #[.pointer (some ⟨b, 0, none⟩), .int .i64 x, .int .i64 j, .agg #[.int .i64 a, .int .i64 n, .int .u64 (re : Int), .int .u64 (im : Int), .int .i64 rr]] _ _
  have hft := Lib.hid (show ∀ w', Upd (fun _ => False) w w' → Calls Try.prog 68 #[.agg #[.slice fa (ks.getD kn []).length fc], .int .i64 j, .agg #[.int .i64 a, .int .i64 n, .int .u64 (re : Int), .int .u64 (im : Int), .int .i64 rr]] w' (RetU w' (.bool (fitsV (ks.getD kn []) j ⟨a, n, re, im, rr⟩))) from hft.out)
  have hto := Lib.hid (show ∀ w', Calls Try.prog 69 #[.agg #[.int .i64 a, .int .i64 n, .int .u64 (re : Int), .int .u64 (im : Int), .int .i64 rr]] w' (RetU w' (toldV ⟨a, n, re, im, rr⟩).v) from hto.out)
  have hu : Upd (fun _ => False) w (w.alloc (.cells #[.int .i64 a, .int .i64 n, .int .u64 (re : Int), .int .u64 (im : Int), .int .i64 rr] 26)) := (Upd.refl _ _).alloc _
  have hB := Lib.hid (Blk.new w [.int .i64 a, .int .i64 n, .int .u64 (re : Int), .int .u64 (im : Int), .int .i64 rr] 26)
  have hfd := vh_find (h.still hu) x
  rw [hn] at hfd
  have hfd := Lib.hid (show Calls Try.prog 61 #[.pointer (some ⟨b, 0, none⟩), .int .i64 x] _ (RetU _ (.pointer (some ⟨b, 1 + i * 3, none⟩))) from hfd)
  have hix := idx_own5 g (o i).f.length c j hj
  have hcells := fun w' (u : Upd (fun _ => False) w w') => show w'.cell? ⟨b, 0, none⟩ = some (.slice va ks.length vc) ∧ w'.cell? ⟨b, 1 + i * 3 + 1, none⟩ = some (.int .i64 kn) ∧ w'.cell? ⟨b, 1 + i * 3 + 2, none⟩ = some (.slice (some ⟨g, 0, none⟩) (o i).f.length c) ∧ w'.cell? ⟨b0, off + kn, none⟩ = some (.slice fa (ks.getD kn []).length fc) from
    ⟨(h.still u).blk.cell 0 rfl, by rw [((h.still u).cell i hi).2.1, hkn], by rw [((h.still u).cell i hi).2.2, hF], (u.none.cell (p := ⟨b0, off + kn, none⟩) hb0).trans hck⟩
  have hGc := Lib.hid (fun w' (u : Upd (fun _ => False) w w') t (ht : t < 5) => show (∃ q, w'.cell? ⟨g, j * 5 + t, none⟩ = some q) ∧ w'.frozen? ⟨g, j * 5 + t, none⟩ = false from
    ⟨⟨_, (hG.upd u (fun h => h)).cell (j * 5 + t) (List.getElem?_eq_getElem (by omega))⟩, (hG.upd u (fun h => h)).free _⟩)
  have hjl : (j : Int) < (o i).f.length := by omega
  have hjl2 : ¬ (o i).f.length ≤ (j : Int) := by omega
  have h15' : ((o i).f.length : Int) ≤ 15 := by omega
  generalize (o i).f.length = fl at *
  obtain ⟨ga, hga⟩ : ∃ ga : Option Addr, some ⟨g, 0, none⟩ = ga := ⟨_, rfl⟩
  rw [hga] at hcells hix
  clear hga hF hG hgl
  generalize (ks.getD kn []) = kf at *
  have hcells := Lib.hid hcells
  clear h hn hus hi hfe hf hrows hc hck hkn kin1 kin2 kin3 hcap hcap1 hj hg h15
  have Hhu := Lib.hid hu; clear hu
  cases hfit : fitsV kf j ⟨a, n, re, im, rr⟩ with
  | false =>
    rw [hfit] at hft hr
    rw [if_neg (by decide)] at hr
    have fin := Lib.hid (fun w' u => hr ▸ fin3.out w' u)
    clear hr hfit
    go_enter Try.func32, Try.ntmps32
    go_wp2_with (go_at_call 61; (with_reducible refine hfd.out.mono ?_); rintro e w2 ⟨rfl, hu2⟩; have cF := (hcells.out w2 (Hhu.out.trans hu2)).2.2.1; have Hu2 := Lib.hid hu2; clear hu2)
    have q1 := fun (s : Later w2) => (hcells.out s.val ((Hhu.out.trans Hu2.out).trans s.up)).1
    have q2 := fun (s : Later w2) => (hcells.out s.val ((Hhu.out.trans Hu2.out).trans s.up)).2.1
    have q3 := fun (s : Later w2) => (hcells.out s.val ((Hhu.out.trans Hu2.out).trans s.up)).2.2.2
    have p0 := fun (s : Later w2) => (hB.out.upd (Hu2.out.trans s.up) (fun h => h)).cell 0 rfl
    have p1 := fun (s : Later w2) => (hB.out.upd (Hu2.out.trans s.up) (fun h => h)).cell 1 rfl
    have p2 := fun (s : Later w2) => (hB.out.upd (Hu2.out.trans s.up) (fun h => h)).cell 2 rfl
    have p3 := fun (s : Later w2) => (hB.out.upd (Hu2.out.trans s.up) (fun h => h)).cell 3 rfl
    have p4 := fun (s : Later w2) => (hB.out.upd (Hu2.out.trans s.up) (fun h => h)).cell 4 rfl
    have hft2 := Lib.hid (fun (s : Later w2) => (hft.out s.val ((Hhu.out.trans Hu2.out).trans s.up)).mono (fun e w'' hh => (⟨hh.1, s.up.trans hh.2⟩ : e = .returned (.bool false) ∧ Upd (fun _ => False) w2 w'')))
    refine wp_region_later (by kernel_rfl) (by kernel_rfl) ?_
    repeat (go_big_quiet_step ((go_at_call 68; exact calls_later (hft2.out _))))
    refine wpQuiet_nil ?_
    intro w4 hw4
    have u4 : Upd (fun _ => False) w2 w4 := by
      obtain ⟨s, rfl⟩ := hw4
      exact s.up
    clear hw4
    clear q1 q2 q3 p0 p1 p2 p3 p4
    go_wp2
    go_ret
    exact fin.out _ ((Hhu.out.trans Hu2.out).trans u4)
  | true =>
    rw [hfit] at hft hr
    rw [if_pos rfl] at hr
    have fin := Lib.hid (fun w' u => hr ▸ hput.out w' u)
    have hTk : (toldV ⟨a, n, re, im, rr⟩).v = .agg #[.int .i64 (toldV ⟨a, n, re, im, rr⟩).k, .int .i64 (toldV ⟨a, n, re, im, rr⟩).n, .int .u64 ((toldV ⟨a, n, re, im, rr⟩).re : Int), .int .u64 ((toldV ⟨a, n, re, im, rr⟩).im : Int), .int .i64 (toldV ⟨a, n, re, im, rr⟩).r] := rfl
    rw [hTk] at hto
    clear hTk
    generalize toldV ⟨a, n, re, im, rr⟩ = tv at *
    obtain ⟨ta, tn, tre, tim, tr⟩ := tv
    simp only at hto fin
    clear hr hfit
    go_enter Try.func32, Try.ntmps32
    go_wp2_with (go_at_call 61; (with_reducible refine hfd.out.mono ?_); rintro e w2 ⟨rfl, hu2⟩; have cF := (hcells.out w2 (Hhu.out.trans hu2)).2.2.1; have Hu2 := Lib.hid hu2; clear hu2)
    have q1 := fun (s : Later w2) => (hcells.out s.val ((Hhu.out.trans Hu2.out).trans s.up)).1
    have q2 := fun (s : Later w2) => (hcells.out s.val ((Hhu.out.trans Hu2.out).trans s.up)).2.1
    have q3 := fun (s : Later w2) => (hcells.out s.val ((Hhu.out.trans Hu2.out).trans s.up)).2.2.2
    have p0 := fun (s : Later w2) => (hB.out.upd (Hu2.out.trans s.up) (fun h => h)).cell 0 rfl
    have p1 := fun (s : Later w2) => (hB.out.upd (Hu2.out.trans s.up) (fun h => h)).cell 1 rfl
    have p2 := fun (s : Later w2) => (hB.out.upd (Hu2.out.trans s.up) (fun h => h)).cell 2 rfl
    have p3 := fun (s : Later w2) => (hB.out.upd (Hu2.out.trans s.up) (fun h => h)).cell 3 rfl
    have p4 := fun (s : Later w2) => (hB.out.upd (Hu2.out.trans s.up) (fun h => h)).cell 4 rfl
    have hft2 := Lib.hid (fun (s : Later w2) => (hft.out s.val ((Hhu.out.trans Hu2.out).trans s.up)).mono (fun e w'' hh => (⟨hh.1, s.up.trans hh.2⟩ : e = .returned (.bool true) ∧ Upd (fun _ => False) w2 w'')))
    refine wp_region_later (by kernel_rfl) (by kernel_rfl) ?_
    repeat (go_big_quiet_step ((go_at_call 68; exact calls_later (hft2.out _))))
    refine wpQuiet_nil ?_
    intro w4 hw4
    have u4 : Upd (fun _ => False) w2 w4 := by
      obtain ⟨s, rfl⟩ := hw4
      exact s.up
    clear hw4
    clear q1 q2 q3 p0 p1 p2 p3 p4 hft2 cF hft fin3
    have Hu4 := Lib.hid ((Hhu.out.trans Hu2.out).trans u4)
    have hB4 := Lib.hid (hB.out.upd (Hu2.out.trans u4) (fun h => h))
    clear u4 Hu2 Hhu hB
    obtain ⟨wm, hwm⟩ : ∃ wm : World, wm = w4 := ⟨_, rfl⟩
    subst hwm
    have r0 := (hcells.out wm Hu4.out).2.2.1
    have p0 := hB4.out.cell 0 rfl
    have p1 := hB4.out.cell 1 rfl
    have p2 := hB4.out.cell 2 rfl
    have p3 := hB4.out.cell 3 rfl
    have p4 := hB4.out.cell 4 rfl
    go_wp2_with fail
    go_region_with (go_at_call 69; (with_reducible refine (hto.out _).mono ?_); rintro e w5 ⟨rfl, hu5⟩; have s0 := (hcells.out w5 (Hu4.out.drew.trans hu5)).2.2.1; obtain ⟨⟨m0, c0⟩, f0⟩ := hGc.out w5 (Hu4.out.drew.trans hu5) 0 (by decide); obtain ⟨⟨m1, c1⟩, f1⟩ := hGc.out w5 (Hu4.out.drew.trans hu5) 1 (by decide); obtain ⟨⟨m2, c2⟩, f2⟩ := hGc.out w5 (Hu4.out.drew.trans hu5) 2 (by decide); obtain ⟨⟨m3, c3⟩, f3⟩ := hGc.out w5 (Hu4.out.drew.trans hu5) 3 (by decide); obtain ⟨⟨m4, c4⟩, f4⟩ := hGc.out w5 (Hu4.out.drew.trans hu5) 4 (by decide); simp only [Nat.add_zero] at c0 f0; have Hu5 := Lib.hid hu5; clear hu5)
    all_goals go_wp2
    all_goals go_ret
    all_goals exact fin.out _ (Hu4.out.drew.trans Hu5.out)
theorem vh_Set {w : World} {b base : Nat} {ks : List (List Int)} {o : Nat → VOb} {kv : Value} {F : Nat → Value} (h : IsVh w b base ks o kv F) (x j : Int) (v : Val) (hvo : v.ok) :
    Calls Try.prog 32 #[.pointer (some ⟨b, 0, none⟩), .int .i64 x, .int .i64 j, v.v] w (RetSt w b base ks kv F (setV ks o x j v)) := by
  cases hn : findV o x with
  | none => exact vh_Set_no h x j v hn
  | some i =>
    by_cases hj : j < 0 ∨ ((o i).f.length : Int) ≤ j
    · exact vh_Set_out h x j v hn hj
    · obtain ⟨jn, rfl⟩ : ∃ jn : Nat, j = jn := ⟨j.toNat, by omega⟩
      exact vh_Set_in h x jn v hvo hn (by omega)
end Go.Proofs.Ytcnbcidbbeadcaa
