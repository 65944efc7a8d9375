/- The document's volatile objects: Set. -/
import Derived.Test.YtcnbcidbbeadcaaVoS
import Derived.Test.YtcnbcidbbeadcaaVhAw
namespace Go.Proofs.Ytcnbcidbbeadcaa
open Go.RowKit Go.Deep
set_option linter.unusedVariables false

def VoSt (w : World) (m : Nat) (T : Nat → Prop) (ks : List (List Int)) (kv : Value) (r : (Nat → VOb) × Int) (e : Ending) (w' : World) : Prop :=
  e = .returned (.int .i64 r.2) ∧ (∃ Kd G, IsVo w' m T ks r.1 kv Kd G) ∧ Upd (fun j => j = m) w w'
/-- A row of values, cell by cell. -/
theorem ValsR.cells {w : World} {a : Addr} {n c : Nat} {xs : List Val} (h : ValsR w (.slice (some a) n c) xs) : n = xs.length ∧ ∀ j u, (cellsV xs)[j]? = some u → w.cell? (a.add j) = some u := by
  obtain ⟨a0, c0, e, h1, h2, h3⟩ := h
  cases e
  refine ⟨rfl, fun j u hj => ?_⟩
  have hjl : j < xs.length * 5 := by
    have := (List.getElem?_eq_some_iff.1 hj).1
    have hl : ∀ ys : List Val, (cellsV ys).length = ys.length * 5 := by
      intro ys
      induction ys with
      | nil => rfl
      | cons y ys ih =>
        have : cellsV (y :: ys) = y.cells ++ cellsV ys := rfl
        rw [this, List.length_append, ih]
        simp [Val.cells]
        omega
    rw [hl] at this
    exact this
  obtain ⟨b, off, ea, hb, hc⟩ := h3 (by omega)
  cases ea
  obtain ⟨q, t, hq, ht, rfl⟩ : ∃ q t, q < xs.length ∧ t < 5 ∧ j = q * 5 + t := ⟨j / 5, j % 5, by omega, by omega, by omega⟩
  rw [cellsV_get xs q t hq ht] at hj
  cases hj
  have := hc q hq t ht
  have e2 : (⟨b, off, none⟩ : Addr).add (q * 5 + t) = ⟨b, off + q * 5 + t, none⟩ := by
    unfold Addr.add
    split <;> simp_all
    omega
  rw [e2]
  exact this
theorem cellsV_one (xs : List Val) : ∀ u ∈ cellsV xs, u.oneCell' = true := by
  intro u hu
  induction xs with
  | nil => simp [cellsV] at hu
  | cons y ys ih =>
    have e : cellsV (y :: ys) = y.cells ++ cellsV ys := rfl
    rw [e] at hu
    rcases List.mem_append.1 hu with hu | hu
    · simp only [Val.cells, List.mem_cons, List.not_mem_nil, or_false] at hu
      rcases hu with rfl | rfl | rfl | rfl | rfl <;> rfl
    · exact ih hu
theorem cellsV_len (ys : List Val) : (cellsV ys).length = ys.length * 5 := by
  induction ys with
  | nil => rfl
  | cons y ys ih =>
    have : cellsV (y :: ys) = y.cells ++ cellsV ys := rfl
    rw [this, List.length_append, ih]
    simp [Val.cells]
    omega
/-- append([]Value(nil), s...): a new row of the same values. -/
theorem wpList_copyVals {w : World} {ops : Array Oper} {rest : List Oper} {o : Oper} {a : Act} {Q : Exit → Act → World → Prop} (hgd : o.guard = none) (s x : Operand)
    (ho : o.op = .call { callee := .builtin .append, args := #[s, x], argTypes := #[23, 23] }) (hs : a.eval s = .slice none 0 0) (ad : Addr) (n c : Nat) (xs : List Val) (hx : a.eval x = .slice (some ad) n c) (hv : ValsR w (.slice (some ad) n c) xs) (hp : 0 < xs.length) (hl : xs.length ≤ 1000)
    (h : ∀ g' c' w', w'.ownsRow w.heap.size 26 5 (.slice (some ⟨g', 0, none⟩) xs.length c') xs.length (cellsV xs) → Upd (fun _ => False) w w' → wpList Try.prog ops Q rest (a.put o.dst (.slice (some ⟨g', 0, none⟩) xs.length c')) w') : wpList Try.prog ops Q (o :: rest) a w := by
  obtain ⟨i0, hi, hz0, hz1, hz2⟩ := info_parts infoVal
  obtain ⟨hn, hc⟩ := hv.cells
  have hO : w.ownsRow w.heap.size 26 5 (.slice none 0 0) 0 [] := World.ownsRow_nil _ _ _ _
  refine wpList_append_own w hgd s x 23 ho w.heap.size 26 i0 _ 5 40 Try.underlying23 hi hz0 hz1 hz2 rfl (by decide) _ 0 [] hs hO ad n c (cellsV xs) hx (by rw [cellsV_len, hn]) hc (cellsV_one xs) (by unfold maxLen; omega) (by omega) (Nat.le_refl _) (fun v' w' h1 h2 _ => ?_)
  rw [Nat.zero_add, List.nil_append, hn] at h1
  obtain ⟨a', c', rfl⟩ := ownsRow_shape h1
  rcases h1.2 with ⟨-, h0⟩ | ⟨g, cap, cur, hv', -⟩
  · omega
  · injection hv' with e1 e2 e3
    subst e1
    exact h g _ w' h1 ((Upd.refl _ _).grown h2 (fun k e => by cases e))
/-- The cells of one value of a row of the call's own. -/
theorem own_cells {w : World} {B g n c : Nat} {xs : List Value} (h : w.ownsRow B 26 5 (.slice (some ⟨g, 0, none⟩) n c) n xs) (j : Nat) (hj : j < n) :
    ∃ s0 s1 s2 s3 s4 : Value, s0 = s0 ∧ s1 = s1 ∧ s2 = s2 ∧ s3 = s3 ∧ s4 = s4 ∧ (w.cell? ⟨g, j * 5, none⟩ = some s0 ∧ w.frozen? ⟨g, j * 5, none⟩ = false) ∧ (w.cell? ⟨g, j * 5 + 1, none⟩ = some s1 ∧ w.frozen? ⟨g, j * 5 + 1, none⟩ = false) ∧ (w.cell? ⟨g, j * 5 + 2, none⟩ = some s2 ∧ w.frozen? ⟨g, j * 5 + 2, none⟩ = false) ∧ (w.cell? ⟨g, j * 5 + 3, none⟩ = some s3 ∧ w.frozen? ⟨g, j * 5 + 3, none⟩ = false) ∧ (w.cell? ⟨g, j * 5 + 4, none⟩ = some s4 ∧ w.frozen? ⟨g, j * 5 + 4, none⟩ = false) := by
  rcases h.2 with ⟨hz, -⟩ | ⟨g', cap, cur, hv, hg, hh, hn, hcap, hsz, htk⟩
  · cases hz
  · cases hv
    have hb : Blk w g cur.toList 26 := hh
    have hs : n * 5 ≤ cur.toList.length := by
      have : cur.size = c * 5 := hsz
      have : n * 5 ≤ c * 5 := Nat.mul_le_mul_right 5 hn
      simp
      omega
    have key : ∀ t, t < n * 5 → ∃ s, w.cell? ⟨g, t, none⟩ = some s ∧ w.frozen? ⟨g, t, none⟩ = false := fun t ht => ⟨_, hb.cell t (List.getElem?_eq_getElem (by omega)), hb.free t⟩
    obtain ⟨s0, k0⟩ := key (j * 5) (by omega)
    obtain ⟨s1, k1⟩ := key (j * 5 + 1) (by omega)
    obtain ⟨s2, k2⟩ := key (j * 5 + 2) (by omega)
    obtain ⟨s3, k3⟩ := key (j * 5 + 3) (by omega)
    obtain ⟨s4, k4⟩ := key (j * 5 + 4) (by omega)
    exact ⟨s0, s1, s2, s3, s4, rfl, rfl, rfl, rfl, rfl, k0, k1, k2, k3, k4⟩
theorem voC_cellsG {w : World} {m : Nat} {T : Nat → Prop} {ks : List (List Int)} {o : Nat → VOb} {kv : Value} {Kd : Nat → Int} {G : Nat → Value} (h : IsVo w m T ks o kv Kd G) {i : Nat} (hi : i < 64) (hus : (o i).used = true) (vs : List Val) {w5 : World} (u : Upd (fun _ => False) w w5) {g c : Nat} (hg : w.heap.size ≤ g)
    (hr : w5.ownsRow w.heap.size 26 5 (.slice (some ⟨g, 0, none⟩) vs.length c) vs.length (cellsV vs)) :
    (∃ Kd G, IsVo (w5.setCell ⟨m, 129 + i, none⟩ (.slice (some ⟨g, 0, none⟩) vs.length c)) m T ks (setO o i ⟨true, (o i).k, vs⟩) kv Kd G) ∧ Upd (fun j => j = m) w (w5.setCell ⟨m, 129 + i, none⟩ (.slice (some ⟨g, 0, none⟩) vs.length c)) := by
  have h5 := h.still u
  have hb := h5.blk.set (129 + i) (.slice (some ⟨g, 0, none⟩) vs.length c)
  rw [voC_setG kv o Kd G i hi ⟨true, (o i).k, vs⟩ _ hus.symm] at hb
  have u6 := (Upd.refl (fun j => j = m) w5).at (129 + i) (.slice (some ⟨g, 0, none⟩) vs.length c)
  have hlt := h.lt
  have hm := h.self
  refine ⟨⟨_, _, h5.put hi ⟨true, (o i).k, vs⟩ (Kd i) _ hb u6 (fun _ w3 u3 => ?_) (fun _ => h.kd i hi hus)⟩, (u.mono (fun _ _ x => x.elim)).trans u6⟩
  exact ownsRow_vals (ownsRow_upd (ownsRow_upd hr u6 (fun j hj (e : j = m) => by subst e; have := hlt _ hm; omega)) u3 (fun j hj e => by have := hlt _ e; omega))
set_option maxRecDepth 100000 in
set_option maxHeartbeats 4000000 in
theorem vo_Set_no {w : World} {m : Nat} {T : Nat → Prop} {ks : List (List Int)} {o : Nat → VOb} {kv : Value} {Kd : Nat → Int} {G : Nat → Value} (h : IsVo w m T ks o kv Kd G) (x j : Int) (v : Val) (h15 : ∀ i, i < 64 → (o i).used = true → (o i).f.length ≤ 15) (he : (getV o x j).2 ≠ 0) (hs : setV ks o x j v = (o, (getV o x j).2)) :
    Calls Try.prog 72 #[.pointer (some ⟨m, 0, none⟩), .int .i64 x, .int .i64 j, v.v] w (VoSt w m T ks kv (setV ks o x j v)) := by
  rw [hs]
  obtain ⟨a, n, re, im, r⟩ := v
  show Calls _ _ #[.pointer (some ⟨m, 0, none⟩), .int .i64 x, .int .i64 j, .agg #[.int .i64 a, .int .i64 n, .int .u64 (re : Int), .int .u64 (im : Int), .int .i64 r]] _ _
  have hu : Upd (fun _ => False) w (w.alloc (.cells #[.int .i64 a, .int .i64 n, .int .u64 (re : Int), .int .u64 (im : Int), .int .i64 r] 26)) := (Upd.refl _ _).alloc _
  have hg := vo_Get (h.still hu) x j h15
  have fin := Lib.hid (fun w' (u : Upd (fun _ => False) w w') => show VoSt w m T ks kv (o, (getV o x j).2) (.returned (.int .i64 (getV o x j).2)) w' from ⟨rfl, ⟨Kd, G, h.still u⟩, u.mono (fun _ _ x => x.elim)⟩)
  generalize getV o x j = g at *
  obtain ⟨⟨zk, zn, zre, zim, zr⟩, er⟩ := g
  simp only at he fin
  have e1 : (er != 0) = true := by rw [bne_iff_ne]; exact he
  have hg := Lib.hid (show Calls Try.prog 71 #[.pointer (some ⟨m, 0, none⟩), .int .i64 x, .int .i64 j] _ (RetU _ (.tuple #[.agg #[.int .i64 zk, .int .i64 zn, .int .u64 (zre : Int), .int .u64 (zim : Int), .int .i64 zr], .int .i64 er])) from hg)
  have Hhu := Lib.hid hu; clear hu
  clear h hs he h15
  go_enter Try.func72, Try.ntmps72
  go_wp2_with (go_at_call 71; (with_reducible refine hg.out.mono ?_); rintro e w2 ⟨rfl, hu2⟩; have Hu2 := Lib.hid (hu2.alloc (.cells #[.int .i64 zk, .int .i64 zn, .int .u64 (zre : Int), .int .u64 (zim : Int), .int .i64 zr] 26)); clear hu2)
  go_ret
  exact fin.out _ (Hhu.out.trans Hu2.out)
theorem vo_fin_set {W1 w4 w5 w6 : World} {m : Nat} {T : Nat → Prop} {ks : List (List Int)} {o : Nat → VOb} {kv : Value} {Kd : Nat → Int} {G : Nat → Value} (h1 : IsVo W1 m T ks o kv Kd G) {i : Nat} (hi : i < 64) (hus : (o i).used = true) (fs : List Val) (u4 : Upd (fun _ => False) W1 w4) {g c : Nat}
    (ho5 : w5.ownsRow w4.heap.size 26 5 (.slice (some ⟨g, 0, none⟩) fs.length c) fs.length (cellsV fs)) (u5 : Upd (fun _ => False) w4 w5) (u6 : Upd (fun _ => False) w5 w6) (j : Nat) (hj : j < fs.length) (x : Val) :
    (∃ Kd G, IsVo ((((((w6.setCell ⟨g, j * 5, none⟩ (.int .i64 x.k)).setCell ⟨g, j * 5 + 1, none⟩ (.int .i64 x.n)).setCell ⟨g, j * 5 + 2, none⟩ (.int .u64 (x.re : Int))).setCell ⟨g, j * 5 + 3, none⟩ (.int .u64 (x.im : Int))).setCell ⟨g, j * 5 + 4, none⟩ (.int .i64 x.r)).setCell ⟨m, 129 + i, none⟩ (.slice (some ⟨g, 0, none⟩) fs.length c)) m T ks (setO o i ⟨true, (o i).k, fs.set j x⟩) kv Kd G) ∧
    Upd (fun j => j = m) W1 ((((((w6.setCell ⟨g, j * 5, none⟩ (.int .i64 x.k)).setCell ⟨g, j * 5 + 1, none⟩ (.int .i64 x.n)).setCell ⟨g, j * 5 + 2, none⟩ (.int .u64 (x.re : Int))).setCell ⟨g, j * 5 + 3, none⟩ (.int .u64 (x.im : Int))).setCell ⟨g, j * 5 + 4, none⟩ (.int .i64 x.r)).setCell ⟨m, 129 + i, none⟩ (.slice (some ⟨g, 0, none⟩) fs.length c)) := by
  have hg := (ho5.lt g rfl).1
  have hr := ownsRow_upd ho5 u6 (fun _ _ x => x)
  have e := cellsV_set fs j hj x
  have r1 := ownsRow_setCell hr (j * 5 + 0) (by omega) (.int .i64 x.k)
  have r2 := ownsRow_setCell r1 (j * 5 + 1) (by omega) (.int .i64 x.n)
  have r3 := ownsRow_setCell r2 (j * 5 + 2) (by omega) (.int .u64 (x.re : Int))
  have r4 := ownsRow_setCell r3 (j * 5 + 3) (by omega) (.int .u64 (x.im : Int))
  have r5 := ownsRow_setCell r4 (j * 5 + 4) (by omega) (.int .i64 x.r)
  rw [e] at r5
  have u7 := (((((Upd.refl (fun k => k = g) w6).at (j * 5) (.int .i64 x.k)).at (j * 5 + 1) (.int .i64 x.n)).at (j * 5 + 2) (.int .u64 (x.re : Int))).at (j * 5 + 3) (.int .u64 (x.im : Int))).at (j * 5 + 4) (.int .i64 x.r)
  have uu := (u5.trans u6).own u7 (fun k (e : k = g) => by subst e; exact hg)
  have hl : (fs.set j x).length = fs.length := List.length_set
  have key := voC_cellsG (h1.still u4) hi hus (fs.set j x) uu (g := g) (c := c) hg (by rw [hl]; exact r5)
  rw [hl] at key
  exact ⟨key.1, (u4.mono (fun _ _ x => x.elim)).trans key.2⟩
set_option maxRecDepth 100000 in
set_option maxHeartbeats 4000000 in
theorem vo_Set_in {w : World} {m : Nat} {T : Nat → Prop} {ks : List (List Int)} {o : Nat → VOb} {kv : Value} {Kd : Nat → Int} {G : Nat → Value} (h : IsVo w m T ks o kv Kd G) (x : Int) (j : Nat) (v : Val) (hvo : v.ok) (h15 : ∀ i, i < 64 → (o i).used = true → (o i).f.length ≤ 15) {i : Nat} (hn : findV o x = some i) (hj : j < (o i).f.length)
    (hk : 0 ≤ (o i).k ∧ (o i).k < ks.length ∧ (o i).f.length = (ks.getD (o i).k.toNat []).length) :
    Calls Try.prog 72 #[.pointer (some ⟨m, 0, none⟩), .int .i64 x, .int .i64 j, v.v] w (VoSt w m T ks kv (setV ks o x j v)) := by
  obtain ⟨a, n, re, im, rr⟩ := v
  obtain ⟨hi, hus, -⟩ := findV_some hn
  obtain ⟨r, hr⟩ : ∃ r, setV ks o x j ⟨a, n, re, im, rr⟩ = r := ⟨_, rfl⟩
  rw [hr]
  show Calls _ _ #[.pointer (some ⟨m, 0, none⟩), .int .i64 x, .int .i64 j, .agg #[.int .i64 a, .int .i64 n, .int .u64 (re : Int), .int .u64 (im : Int), .int .i64 rr]] _ _
  unfold setV at hr
  rw [hn] at hr
  simp only at hr
  rw [if_neg (by omega), show (j : Int).toNat = j from by omega] at hr
  have hgv : getV o x j = ((o i).f.getD j zeroV, 0) := by
    unfold getV
    rw [hn]
    simp only
    rw [if_neg (by omega)]
    rfl
  obtain ⟨kn, hkn⟩ : ∃ kn : Nat, (o i).k = kn := ⟨(o i).k.toNat, by omega⟩
  obtain ⟨kin1, kin2, kin3⟩ := hk
  rw [hkn, show (kn : Int).toNat = kn from by omega] at hr kin3
  have hy : kn < ks.length := by omega
  have hf15 := h15 i hi hus
  have hat : atV o x = i := by unfold atV; rw [hn]
  -- the value's box
  obtain ⟨W1, hW1⟩ : ∃ W1 : World, w.alloc (.cells #[.int .i64 a, .int .i64 n, .int .u64 (re : Int), .int .u64 (im : Int), .int .i64 rr] 26) = W1 := ⟨_, rfl⟩
  have hu1 : Upd (fun _ => False) w W1 := hW1 ▸ (Upd.refl _ _).alloc _
  have hB1 : Blk W1 w.heap.size [.int .i64 a, .int .i64 n, .int .u64 (re : Int), .int .u64 (im : Int), .int .i64 rr] 26 := hW1 ▸ Blk.new w [.int .i64 a, .int .i64 n, .int .u64 (re : Int), .int .u64 (im : Int), .int .i64 rr] 26
  have h1 := h.still hu1
  have hg := vo_Get h1 x j h15
  rw [hgv] at hg
  have ha := fun w' (u : Upd (fun _ => False) W1 w') => vo_At (h1.still u) x
  rw [hat] at ha
  have ha := Lib.hid ha
  have hM := h1.kinds W1 (Upd.refl _ _)
  obtain ⟨va, vc, rfl⟩ := mat_shape hM
  obtain ⟨H, hR, hrows⟩ := hM
  obtain ⟨b0, off, hixk, hb0, hc⟩ := RowsIn.index (P := Try.prog) hR Try.underlying22 (by kernel_rfl) (by kernel_rfl) hy
  simp only [Nat.mul_one] at hixk hc
  have hck : W1.cell? ⟨b0, off + kn, none⟩ = some (H kn) := hc 0 (by decide)
  have hf := hrows kn hy
  obtain ⟨fa, fc, hfe⟩ : ∃ fa fc, H kn = .slice fa (ks.getD kn []).length fc := by
    obtain ⟨fa, fc, h1, -⟩ := hf
    exact ⟨fa, fc, h1⟩
  rw [hfe] at hf hck
  have hft := fun w' (u : Upd (fun _ => False) W1 w') => ref_Fits _ _ j ⟨a, n, re, im, rr⟩ w' (ints_upd hf u) (by omega)
  have hcells := fun w' (u : Upd (fun _ => False) W1 w') => show w'.cell? ⟨m, 0, none⟩ = some (.slice va ks.length vc) ∧ w'.cell? ⟨m, 65 + i, none⟩ = some (.int .i64 kn) ∧ w'.cell? ⟨m, 129 + i, none⟩ = some (G i) ∧ w'.cell? ⟨b0, off + kn, none⟩ = some (.slice fa (ks.getD kn []).length fc) from
    ⟨((h1.still u).cell i hi).1, by rw [((h1.still u).cell i hi).2.2.1, h.kd i hi hus, hkn], ((h1.still u).cell i hi).2.2.2, (u.none.cell (p := ⟨b0, off + kn, none⟩) hb0).trans hck⟩
  have hvr := fun w' (u : Upd (fun _ => False) W1 w') => (h1.still u).row i hi hus w' (Upd.refl _ _)
  have hcg := Lib.hid (fun w4 w5 w6 (u4 : Upd (fun _ => False) W1 w4) g c (ho5 : w5.ownsRow w4.heap.size 26 5 (.slice (some ⟨g, 0, none⟩) (o i).f.length c) (o i).f.length (cellsV (o i).f)) (u5 : Upd (fun _ => False) w4 w5) (u6 : Upd (fun _ => False) w5 w6) x => vo_fin_set h1 hi hus (o i).f u4 ho5 u5 u6 j hj x)
  have hfree := Lib.hid (fun w' (u : Upd (fun _ => False) W1 w') => (h1.still u).blk.free (129 + i))
  have fin3 := Lib.hid (fun w' (u : Upd (fun _ => False) w w') => show VoSt w m T ks (.slice va ks.length vc) (o, 3) (.returned (.int .i64 3)) w' from ⟨rfl, ⟨Kd, G, h.still u⟩, u.mono (fun _ _ x => x.elim)⟩)
  have htold := fun hfit => fun w' => ref_Plain ⟨a, n, re, im, rr⟩ (fits_kind (f := ks.getD kn []) (i := (j : Int)) hfit) w'
  obtain ⟨ga, gc, hGe⟩ : ∃ ga gc, G i = .slice ga (o i).f.length gc := by
    obtain ⟨ga, gc, h2, -⟩ := hvr W1 (Upd.refl _ _)
    exact ⟨ga, gc, h2⟩
  rw [hGe] at hcells
  simp only [hGe] at hvr
  obtain ⟨ad, rfl⟩ : ∃ ad, ga = some ad := by
    obtain ⟨a0, c0, e, -, -, h3⟩ := hvr W1 (Upd.refl _ _)
    cases e
    obtain ⟨b, off, e, -⟩ := h3 (by omega)
    exact ⟨_, e⟩
  have hcells := Lib.hid hcells
  have hvr := Lib.hid hvr
  have hfl : ((o i).f.length : Int) ≤ 15 := by omega
  have hfl2 : (o i).f.length ≤ 1000 := by omega
  have hfp : 0 < (o i).f.length := by omega
  have hjn := hj
  have hi1 : (i : Int) < 64 := by omega
  have hjl : (j : Int) < (o i).f.length := by omega
  generalize hzz : (o i).f.getD j zeroV = zz at *
  obtain ⟨zk, zn, zre, zim, zr⟩ := zz
  have hg := Lib.hid (show Calls Try.prog 71 #[.pointer (some ⟨m, 0, none⟩), .int .i64 x, .int .i64 j] W1 (RetU W1 (.tuple #[.agg #[.int .i64 zk, .int .i64 zn, .int .u64 (zre : Int), .int .u64 (zim : Int), .int .i64 zr], .int .i64 0])) from hg)
  have hB1 := Lib.hid hB1
  have hu1h := Lib.hid hu1
  rw [hkn] at hcg
  clear hfe hf hrows hR hc hck hGe h1 h hn hus hy hgv hat kin1 kin2 kin3 hb0 hkn hzz hu1
  generalize (o i).f = fs at *
  cases hfit : fitsV (ks.getD kn []) j ⟨a, n, re, im, rr⟩ with
  | false =>
    rw [hfit, if_neg (by decide)] at hr
    rw [hfit] at hft
    have fin := Lib.hid (fun w' u => hr ▸ fin3.out w' u)
    have hft := Lib.hid (show ∀ w', Upd (fun _ => False) W1 w' → Calls Try.prog 94 #[.agg #[.slice fa (ks.getD kn []).length fc], .int .i64 j, .agg #[.int .i64 a, .int .i64 n, .int .u64 (re : Int), .int .u64 (im : Int), .int .i64 rr]] w' (RetU w' (.bool false)) from hft)
    generalize ks.getD kn [] = kf at *
    clear hr hfit htold hcg hvr fin3 h15
    subst hW1
    go_enter Try.func72, Try.ntmps72
    go_wp2_with (first
      | (go_at_call 71; (with_reducible refine hg.out.mono ?_); rintro e w2 ⟨rfl, hu2⟩; have Hu2 := Lib.hid (hu2.alloc (.cells #[.int .i64 zk, .int .i64 zn, .int .u64 (zre : Int), .int .u64 (zim : Int), .int .i64 zr] 26)); clear hu2)
      | (go_at_call 45; (with_reducible refine (ha.out _ Hu2.out).mono ?_); rintro e w3 ⟨rfl, rfl⟩))
    generalize hwm : w2.alloc (.cells #[.int .i64 zk, .int .i64 zn, .int .u64 (zre : Int), .int .u64 (zim : Int), .int .i64 zr] 26) = wm at *
    have q1 := fun (s : Later wm) => (hcells.out s.val (Hu2.out.trans s.up)).1
    have q2 := fun (s : Later wm) => (hcells.out s.val (Hu2.out.trans s.up)).2.1
    have q3 := fun (s : Later wm) => (hcells.out s.val (Hu2.out.trans s.up)).2.2.2
    have p0 := fun (s : Later wm) => (hB1.out.upd (Hu2.out.trans s.up) (fun h => h)).cell 0 rfl
    have p1 := fun (s : Later wm) => (hB1.out.upd (Hu2.out.trans s.up) (fun h => h)).cell 1 rfl
    have p2 := fun (s : Later wm) => (hB1.out.upd (Hu2.out.trans s.up) (fun h => h)).cell 2 rfl
    have p3 := fun (s : Later wm) => (hB1.out.upd (Hu2.out.trans s.up) (fun h => h)).cell 3 rfl
    have p4 := fun (s : Later wm) => (hB1.out.upd (Hu2.out.trans s.up) (fun h => h)).cell 4 rfl
    have hft2 := Lib.hid (fun (s : Later wm) => (hft.out s.val (Hu2.out.trans s.up)).mono (fun e w'' hh => (⟨hh.1, s.up.trans hh.2⟩ : e = .returned (.bool false) ∧ Upd (fun _ => False) wm w'')))
    refine wp_region_later (by kernel_rfl) (by kernel_rfl) ?_
    repeat (go_big_quiet_step ((go_at_call 94; exact calls_later (hft2.out _))))
    refine wpQuiet_nil ?_
    intro w4 hw4
    have u4 : Upd (fun _ => False) wm w4 := by
      obtain ⟨s, rfl⟩ := hw4
      exact s.up
    clear hw4
    clear q1 q2 q3 p0 p1 p2 p3 p4
    go_wp2
    go_ret
    exact fin.out _ ((hu1h.out.trans Hu2.out).trans u4)
  | true =>
    have htl := htold hfit
    rw [hfit, if_pos rfl] at hr
    rw [hfit] at hft
    have hft := Lib.hid (show ∀ w', Upd (fun _ => False) W1 w' → Calls Try.prog 94 #[.agg #[.slice fa (ks.getD kn []).length fc], .int .i64 j, .agg #[.int .i64 a, .int .i64 n, .int .u64 (re : Int), .int .u64 (im : Int), .int .i64 rr]] w' (RetU w' (.bool true)) from hft)
    have htl := Lib.hid (show ∀ w', Calls Try.prog 95 #[.agg #[.int .i64 a, .int .i64 n, .int .u64 (re : Int), .int .u64 (im : Int), .int .i64 rr]] w' (RetU w' (.agg #[.int .i64 (toldV ⟨a, n, re, im, rr⟩).k, .int .i64 (toldV ⟨a, n, re, im, rr⟩).n, .int .u64 ((toldV ⟨a, n, re, im, rr⟩).re : Int), .int .u64 ((toldV ⟨a, n, re, im, rr⟩).im : Int), .int .i64 (toldV ⟨a, n, re, im, rr⟩).r])) from htl)
    have fin := fun w4 w5 w6 (u4 : Upd (fun _ => False) W1 w4) g c ho5 u5 u6 => hcg.out w4 w5 w6 u4 g c ho5 u5 u6 (toldV ⟨a, n, re, im, rr⟩)
    generalize toldV ⟨a, n, re, im, rr⟩ = tv at *
    obtain ⟨ta, tn, tre, tim, tr⟩ := tv
    simp only at htl fin
    have fin := Lib.hid fin
    generalize ks.getD kn [] = kf at *
    clear hfit htold hcg fin3 h15
    subst hr
    subst hW1
    go_enter Try.func72, Try.ntmps72
    go_wp2_with (first
      | (go_at_call 71; (with_reducible refine hg.out.mono ?_); rintro e w2 ⟨rfl, hu2⟩; have Hu2 := Lib.hid (hu2.alloc (.cells #[.int .i64 zk, .int .i64 zn, .int .u64 (zre : Int), .int .u64 (zim : Int), .int .i64 zr] 26)); clear hu2)
      | (go_at_call 45; (with_reducible refine (ha.out _ Hu2.out).mono ?_); rintro e w3 ⟨rfl, rfl⟩))
    generalize hwm : w2.alloc (.cells #[.int .i64 zk, .int .i64 zn, .int .u64 (zre : Int), .int .u64 (zim : Int), .int .i64 zr] 26) = wm at *
    have q1 := fun (s : Later wm) => (hcells.out s.val (Hu2.out.trans s.up)).1
    have q2 := fun (s : Later wm) => (hcells.out s.val (Hu2.out.trans s.up)).2.1
    have q3 := fun (s : Later wm) => (hcells.out s.val (Hu2.out.trans s.up)).2.2.2
    have p0 := fun (s : Later wm) => (hB1.out.upd (Hu2.out.trans s.up) (fun h => h)).cell 0 rfl
    have p1 := fun (s : Later wm) => (hB1.out.upd (Hu2.out.trans s.up) (fun h => h)).cell 1 rfl
    have p2 := fun (s : Later wm) => (hB1.out.upd (Hu2.out.trans s.up) (fun h => h)).cell 2 rfl
    have p3 := fun (s : Later wm) => (hB1.out.upd (Hu2.out.trans s.up) (fun h => h)).cell 3 rfl
    have p4 := fun (s : Later wm) => (hB1.out.upd (Hu2.out.trans s.up) (fun h => h)).cell 4 rfl
    have hft2 := Lib.hid (fun (s : Later wm) => (hft.out s.val (Hu2.out.trans s.up)).mono (fun e w'' hh => (⟨hh.1, s.up.trans hh.2⟩ : e = .returned (.bool true) ∧ Upd (fun _ => False) wm w'')))
    refine wp_region_later (by kernel_rfl) (by kernel_rfl) ?_
    repeat (go_big_quiet_step ((go_at_call 94; exact calls_later (hft2.out _))))
    refine wpQuiet_nil ?_
    intro w4 hw4
    have u4 : Upd (fun _ => False) wm w4 := by
      obtain ⟨s, rfl⟩ := hw4
      exact s.up
    clear hw4
    clear q1 q2 q3 p0 p1 p2 p3 p4 hft2 hft
    have Hu4 := Lib.hid (Hu2.out.trans u4)
    have cG := (hcells.out w4 Hu4.out).2.2.1
    clear u4 Hu2
    obtain ⟨wn, hwn⟩ : ∃ wn : World, wn = w4 := ⟨_, rfl⟩
    subst hwn
    have hv9 := hvr.out wn Hu4.out
    go_wp2_with (first
      | (at_builtin; apply wpList_copyVals rfl _ _ rfl rfl ad fs.length gc fs rfl hv9 hfp hfl2; intro g5 c5 w5 ho5 hu5; have hB5 := hB1.out.upd (Hu4.out.trans hu5) (fun h => h); have p0 := hB5.cell 0 rfl; have p1 := hB5.cell 1 rfl; have p2 := hB5.cell 2 rfl; have p3 := hB5.cell 3 rfl; have p4 := hB5.cell 4 rfl; have Ho5 := Lib.hid ho5; have Hu5 := Lib.hid hu5; clear ho5 hu5 hB5)
      | (go_at_call 95; (with_reducible refine (htl.out _).mono ?_); rintro e w6 ⟨rfl, hu6⟩; have Hu6 := Lib.hid hu6; have hg5 := (Ho5.out.lt g5 rfl); have hc6 := own_cells (ownsRow_upd Ho5.out hu6 (fun _ _ x => x)) j hjn; obtain ⟨s0, s1, s2, s3, s4, z0, z1, z2, z3, z4, ⟨k0, f0⟩, ⟨k1, f1⟩, ⟨k2, f2⟩, ⟨k3, f3⟩, ⟨k4, f4⟩⟩ := hc6; have hix9 := idx_own5 g5 fs.length c5 j hjn; have q9 := (hcells.out w6 (Hu4.out.trans (Hu5.out.trans hu6))).2.2.1; have fr9 := hfree.out w6 (Hu4.out.trans (Hu5.out.trans hu6)); clear hu6))
    go_ret
    have key := fin.out wn w5 w6 Hu4.out g5 c5 Ho5.out Hu5.out Hu6.out
    exact ⟨rfl, key.1, (hu1h.out.mono (fun _ _ x => x.elim)).trans key.2⟩
theorem vo_Set {w : World} {m : Nat} {T : Nat → Prop} {ks : List (List Int)} {o : Nat → VOb} {kv : Value} {Kd : Nat → Int} {G : Nat → Value} (h : IsVo w m T ks o kv Kd G) (x j : Int) (v : Val) (hvo : v.ok) (h15 : ∀ i, i < 64 → (o i).used = true → (o i).f.length ≤ 15)
    (hk : ∀ i, i < 64 → (o i).used = true → 0 ≤ (o i).k ∧ (o i).k < ks.length ∧ (o i).f.length = (ks.getD (o i).k.toNat []).length) :
    Calls Try.prog 72 #[.pointer (some ⟨m, 0, none⟩), .int .i64 x, .int .i64 j, v.v] w (VoSt w m T ks kv (setV ks o x j v)) := by
  cases hn : findV o x with
  | none =>
    have hg : getV o x j = (zeroV, 2) := by unfold getV; rw [hn]
    refine vo_Set_no h x j v h15 (by rw [hg]; decide) ?_
    rw [hg]
    unfold setV
    rw [hn]
  | some i =>
    obtain ⟨hi, hus, -⟩ := findV_some hn
    by_cases hj : j < 0 ∨ ((o i).f.length : Int) ≤ j
    · have hg : getV o x j = (zeroV, 4) := by
        unfold getV
        rw [hn]
        simp only
        rw [if_pos hj]
      refine vo_Set_no h x j v h15 (by rw [hg]; decide) ?_
      rw [hg]
      unfold setV
      rw [hn]
      simp only
      rw [if_pos hj]
    · obtain ⟨jn, rfl⟩ : ∃ jn : Nat, j = jn := ⟨j.toNat, by omega⟩
      exact vo_Set_in h x jn v hvo h15 hn (by omega) (hk i hi hus)
end Go.Proofs.Ytcnbcidbbeadcaa
