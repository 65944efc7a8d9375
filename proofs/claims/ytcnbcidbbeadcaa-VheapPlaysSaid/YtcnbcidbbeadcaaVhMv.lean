/- A heap of volatile objects: Move. -/
import Derived.Test.YtcnbcidbbeadcaaVhAw
import Derived.Test.YtcnbcidbbeadcaaVhQ
namespace Go.Proofs.Ytcnbcidbbeadcaa
open Go.RowKit Go.Deep
set_option linter.unusedVariables false

theorem allTo_mem (o : Nat → VOb) (n : Nat) (x : Int) : x ∈ allTo o n ↔ ∃ i : Nat, i < n ∧ (o i).used = true ∧ x = -1 - (i : Int) := by
  induction n with
  | zero => simp [allTo]
  | succ n ih =>
    unfold allTo
    rw [List.mem_append, ih]
    constructor
    · rintro (⟨i, h1, h2, h3⟩ | h)
      · exact ⟨i, by omega, h2, h3⟩
      · split at h
        · rename_i hu
          simp at h
          exact ⟨n, by omega, hu, h⟩
        · simp at h
    · rintro ⟨i, h1, h2, h3⟩
      by_cases e : i = n
      · subst e
        right
        rw [if_pos h2]
        simp [h3]
      · exact Or.inl ⟨i, by omega, h2, h3⟩
theorem allTo_nodup (o : Nat → VOb) (n : Nat) : (allTo o n).Nodup := by
  induction n with
  | zero => exact List.nodup_nil
  | succ n ih =>
    unfold allTo
    rw [List.nodup_append]
    refine ⟨ih, by split <;> simp, ?_⟩
    intro a ha b hb e
    subst e
    obtain ⟨i, h1, -, h3⟩ := (allTo_mem o n a).1 ha
    split at hb
    · simp at hb
      omega
    · simp at hb
def mv1 (p q : Int) (x : Val) : Val := if x.k = 3 ∧ x.r = p then { x with r := q } else x
def cnt1 (p : Int) (x : Val) : Nat := if x.k = 3 ∧ x.r = p then 1 else 0
def mvF (p q : Int) (f : List Val) : List Val := f.map (mv1 p q)
def cntF (p : Int) : List Val → Nat
  | [] => 0
  | x :: xs => cnt1 p x + cntF p xs
theorem cntF_snoc (p : Int) (f : List Val) (x : Val) : cntF p (f ++ [x]) = cntF p f + cnt1 p x := by
  induction f with
  | nil => simp [cntF]
  | cons y ys ih => simp [cntF, ih]; omega
theorem cntF_le (p : Int) (f : List Val) : cntF p f ≤ f.length := by
  induction f with
  | nil => exact Nat.le_refl _
  | cons y ys ih =>
    have : cnt1 p y ≤ 1 := by unfold cnt1; split <;> omega
    simp only [cntF, List.length_cons]
    omega
def mvK (p q : Int) (f : List Val) (k : Nat) : List Val := mvF p q (f.take k) ++ f.drop k
theorem mvK_len (p q : Int) (f : List Val) (k : Nat) : (mvK p q f k).length = f.length := by
  unfold mvK mvF
  rw [List.length_append, List.length_map, List.length_take, List.length_drop]
  omega
theorem mvK_zero (p q : Int) (f : List Val) : mvK p q f 0 = f := by simp [mvK, mvF]
theorem mvK_all (p q : Int) (f : List Val) : mvK p q f f.length = mvF p q f := by simp [mvK]
theorem mvK_get (p q : Int) (f : List Val) (k : Nat) (hk : k < f.length) : (mvK p q f k).getD k zeroV = f.getD k zeroV := by
  unfold mvK mvF
  simp only [List.getD]
  rw [List.getElem?_append_right (by simp; omega)]
  simp
  have : k - min k f.length = 0 := by omega
  rw [this]
  simp
theorem mvK_succ (p q : Int) (f : List Val) (k : Nat) (hk : k < f.length) : mvK p q f (k + 1) = (mvK p q f k).set k (mv1 p q (f.getD k zeroV)) := by
  unfold mvK mvF
  rw [List.take_succ_eq_append_getElem hk, List.map_append, List.drop_eq_getElem_cons hk, List.append_assoc]
  rw [List.set_append_right _ _ (by simp; omega)]
  have : k - (List.map (mv1 p q) (List.take k f)).length = 0 := by simp; omega
  rw [this, show f.getD k zeroV = f[k] from by simp [List.getD, hk]]
  rfl
theorem nodup_take {l : List Int} (h : l.Nodup) {m : Nat} (hm : m < l.length) : l[m] ∉ l.take m := by
  intro hin
  obtain ⟨s, hs, e⟩ := List.mem_iff_getElem.1 hin
  rw [List.getElem_take] at e
  have hs2 : s < m := by rw [List.length_take] at hs; omega
  exact (List.pairwise_iff_getElem.1 h) s m (by omega) hm hs2 e
theorem mv1_ok {p q : Int} (hq : I64 q) {x : Val} (hx : x.ok) : (mv1 p q x).ok := by
  unfold mv1
  split
  · exact ⟨hx.k, hx.n, hx.re, hx.im, hq⟩
  · exact hx
/-- The objects whose numbers are in xs have their references moved. -/
def mvL (p q : Int) (o : Nat → VOb) (xs : List Int) : Nat → VOb := fun i => if (-1 - (i : Int)) ∈ xs then ⟨(o i).used, (o i).k, mvF p q (o i).f⟩ else o i
def cntL (p : Int) (o : Nat → VOb) : List Int → Nat
  | [] => 0
  | x :: xs => cntF p (o (-1 - x).toNat).f + cntL p o xs
theorem cntL_snoc (p : Int) (o : Nat → VOb) (xs : List Int) (x : Int) : cntL p o (xs ++ [x]) = cntL p o xs + cntF p (o (-1 - x).toNat).f := by
  induction xs with
  | nil => simp [cntL]
  | cons y ys ih => simp [cntL, ih]; omega
theorem mvL_nil (p q : Int) (o : Nat → VOb) : mvL p q o [] = o := by
  funext i
  unfold mvL
  rw [if_neg (by simp)]
theorem mvL_snoc (p q : Int) (o : Nat → VOb) (xs : List Int) (i : Nat) (hx : (-1 - (i : Int)) ∉ xs) : mvL p q o (xs ++ [-1 - (i : Int)]) = setO (mvL p q o xs) i ⟨(mvL p q o xs i).used, (mvL p q o xs i).k, mvF p q (o i).f⟩ := by
  funext j
  by_cases e : j = i
  · subst e
    rw [setO_at]
    unfold mvL
    rw [if_pos (by simp), if_neg hx]
  · rw [setO_ne _ _ e]
    unfold mvL
    have : (-1 - (j : Int)) ∈ xs ++ [-1 - (i : Int)] ↔ (-1 - (j : Int)) ∈ xs := by
      rw [List.mem_append]
      simp
      omega
    simp only [this]
theorem setO_self {o : Nat → VOb} {i : Nat} (hu : (o i).used = true) : setO o i ⟨true, (o i).k, (o i).f⟩ = o := by
  funext j
  by_cases e : j = i
  · subst e
    rw [setO_at, ← hu]
  · rw [setO_ne _ _ e]
theorem setO_set {o : Nat → VOb} {i : Nat} (a b : VOb) : setO (setO o i a) i b = setO o i b := by
  funext j
  by_cases e : j = i
  · subst e
    rw [setO_at, setO_at]
  · rw [setO_ne _ _ e, setO_ne _ _ e, setO_ne _ _ e]
theorem cellsV_setR (xs : List Val) (j : Nat) (hj : j < xs.length) (q : Int) : (cellsV xs).set (j * 5 + 4) (.int .i64 q) = cellsV (xs.set j { xs.getD j zeroV with r := q }) := by
  rw [← cellsV_set xs j hj]
  have g := fun t (ht : t < 5) => cellsV_get xs j t hj ht
  have hs : ∀ (l : List Value) t v, l[t]? = some v → l.set t v = l := by
    intro l t v h
    apply List.ext_getElem?
    intro s
    by_cases e : t = s
    · subst e
      have : t < l.length := (List.getElem?_eq_some_iff.1 h).1
      rw [List.getElem?_set_self this, h]
    · rw [List.getElem?_set_ne e]
  have e0 : (cellsV xs).set (j * 5 + 0) (.int .i64 (xs.getD j zeroV).k) = cellsV xs := hs _ _ _ (g 0 (by decide))
  have e1 : (cellsV xs).set (j * 5 + 1) (.int .i64 (xs.getD j zeroV).n) = cellsV xs := hs _ _ _ (g 1 (by decide))
  have e2 : (cellsV xs).set (j * 5 + 2) (.int .u64 ((xs.getD j zeroV).re : Int)) = cellsV xs := hs _ _ _ (g 2 (by decide))
  have e3 : (cellsV xs).set (j * 5 + 3) (.int .u64 ((xs.getD j zeroV).im : Int)) = cellsV xs := hs _ _ _ (g 3 (by decide))
  show _ = (((((cellsV xs).set (j * 5 + 0) (.int .i64 (xs.getD j zeroV).k)).set (j * 5 + 1) (.int .i64 (xs.getD j zeroV).n)).set (j * 5 + 2) (.int .u64 ((xs.getD j zeroV).re : Int))).set (j * 5 + 3) (.int .u64 ((xs.getD j zeroV).im : Int))).set (j * 5 + 4) (.int .i64 q)
  rw [e0, e1, e2, e3]
/-- The row of an object, cell by cell. -/
theorem IsVh.rowC {w : World} {b base : Nat} {ks : List (List Int)} {o : Nat → VOb} {kv : Value} {F : Nat → Value} (h : IsVh w b base ks o kv F) {i : Nat} (hi : i < 64) (hp : 0 < (o i).f.length) :
    ∃ g c, F i = .slice (some ⟨g, 0, none⟩) (o i).f.length c ∧ base ≤ g ∧ g < w.heap.size ∧ ∀ w', Upd (fun _ => False) w w' → ∀ k, k < (o i).f.length → ∀ t, t < 5 → w'.cell? ⟨g, k * 5 + t, none⟩ = some (((o i).f.getD k zeroV).cell t) ∧ w'.frozen? ⟨g, k * 5 + t, none⟩ = false := by
  rcases (h.row i hi).2 with ⟨hv, h0⟩ | ⟨g, cap, cur, hv, hg, hh, hn, hcap, hsz, htake⟩
  · omega
  · have hb : Blk w g cur.toList 26 := hh
    refine ⟨g, cap, hv, hg, (Array.getElem?_eq_some_iff.1 hh).1, fun w' u k hk t ht => ⟨(hb.upd u (fun x => x)).cell _ ?_, (hb.upd u (fun x => x)).free _⟩⟩
    have h1 : (cur.toList.take ((o i).f.length * 5))[k * 5 + t]? = (cellsV (o i).f)[k * 5 + t]? := by rw [htake]
    rw [List.getElem?_take, if_pos (by omega), cellsV_get (o i).f k t hk ht] at h1
    exact h1
/-- One reference is moved. -/
theorem IsVh.writeR {w : World} {b base : Nat} {ks : List (List Int)} {o : Nat → VOb} {kv : Value} {F : Nat → Value} (h : IsVh w b base ks o kv F) {i : Nat} (hi : i < 64) (hus : (o i).used = true) (j : Nat) (hj : j < (o i).f.length) {q : Int} (hq : I64 q)
    {g c : Nat} (hF : F i = .slice (some ⟨g, 0, none⟩) (o i).f.length c) (hg : base ≤ g) :
    IsVh (w.setCell ⟨g, j * 5 + 4, none⟩ (.int .i64 q)) b base ks (setO o i ⟨true, (o i).k, (o i).f.set j { (o i).f.getD j zeroV with r := q }⟩) kv F := by
  have hr := h.row i hi
  rw [hF] at hr
  have r5 := ownsRow_setCell hr (j * 5 + 4) (by omega) (.int .i64 q)
  rw [cellsV_setR (o i).f j hj q] at r5
  have hx : ((o i).f.getD j zeroV).ok := by
    have : (o i).f.getD j zeroV = (o i).f[j] := by simp [List.getD, hj]
    rw [this]
    exact h.ok i hi _ (List.getElem_mem hj)
  exact h.write hi hus j _ ⟨hx.k, hx.n, hx.re, hx.im, hq⟩ hF hg ((Upd.refl (fun k => k = g) w).at _ _) (by rw [hF]; exact r5)
def RetMv (w : World) (b base : Nat) (ks : List (List Int)) (kv : Value) (F : Nat → Value) (o : Nat → VOb) (n : Nat) (e : Ending) (w' : World) : Prop :=
  e = .returned (.int .i64 (n : Int)) ∧ IsVh w' b base ks o kv F ∧ Upd (fun j => ∃ i, i < 64 ∧ (F i).ownBlock = some j) w w'
/-- While references are moved. -/
structure MvSt (w : World) (b base : Nat) (ks : List (List Int)) (kv : Value) (F : Nat → Value) (o : Nat → VOb) (wr : World) : Prop where
  hp : IsVh wr b base ks o kv F
  up : Upd (fun j => ∃ i, i < 64 ∧ (F i).ownBlock = some j) w wr
theorem MvSt.still {w : World} {b base : Nat} {ks : List (List Int)} {kv : Value} {F : Nat → Value} {o : Nat → VOb} {wr w' : World} (h : MvSt w b base ks kv F o wr) (u : Upd (fun _ => False) wr w') : MvSt w b base ks kv F o w' :=
  ⟨h.hp.still u, h.up.trans (u.mono (fun _ _ x => x.elim))⟩
theorem mvL_at (p q : Int) (o : Nat → VOb) (xs : List Int) (i : Nat) : (mvL p q o xs i).used = (o i).used ∧ (mvL p q o xs i).k = (o i).k := by
  unfold mvL
  split <;> exact ⟨rfl, rfl⟩
theorem mv_hit {w : World} {b base : Nat} {ks : List (List Int)} {kv : Value} {F : Nat → Value} {om : Nat → VOb} {i t : Nat} {ok p q : Int} {f : List Val} {wr : World} (h : MvSt w b base ks kv F (setO om i ⟨true, ok, mvK p q f t⟩) wr) (hi : i < 64) (ht : t < f.length) (hz : (f.getD t zeroV).k = 3 ∧ (f.getD t zeroV).r = p) (hq : I64 q)
    {g gc : Nat} (hF : F i = .slice (some ⟨g, 0, none⟩) f.length gc) (hg : base ≤ g) : MvSt w b base ks kv F (setO om i ⟨true, ok, mvK p q f (t + 1)⟩) (wr.setCell ⟨g, t * 5 + 4, none⟩ (.int .i64 q)) := by
  have e := setO_at om i ⟨true, ok, mvK p q f t⟩
  have hl := mvK_len p q f t
  refine ⟨?_, h.up.setCell (fun _ => ⟨i, hi, by rw [hF]; rfl⟩) _⟩
  have hw := h.hp.writeR hi (by rw [e]) t (by rw [e]; show t < (mvK p q f t).length; omega) hq (g := g) (c := gc) (by rw [e, hF]; show _ = Value.slice _ (mvK p q f t).length _; rw [hl]) hg
  rw [setO_set, e] at hw
  have e2 : (mvK p q f t).set t { (mvK p q f t).getD t zeroV with r := q } = mvK p q f (t + 1) := by
    rw [mvK_succ p q f t ht, mvK_get p q f t ht]
    unfold mv1
    rw [if_pos hz]
  have hw : IsVh (wr.setCell ⟨g, t * 5 + 4, none⟩ (.int .i64 q)) b base ks (setO om i ⟨true, ok, (mvK p q f t).set t { (mvK p q f t).getD t zeroV with r := q }⟩) kv F := hw
  rw [e2] at hw
  exact hw
theorem mv_miss {p q : Int} {f : List Val} {t : Nat} (ht : t < f.length) (hz : ¬ ((f.getD t zeroV).k = 3 ∧ (f.getD t zeroV).r = p)) : mvK p q f (t + 1) = mvK p q f t := by
  rw [mvK_succ p q f t ht]
  unfold mv1
  rw [if_neg hz, ← mvK_get p q f t ht]
  have hl := mvK_len p q f t
  apply List.ext_getElem?
  intro s
  by_cases e : t = s
  · subst e
    rw [List.getElem?_set_self (by omega)]
    simp [List.getD, List.getElem?_eq_getElem (show t < (mvK p q f t).length by omega)]
  · rw [List.getElem?_set_ne e]
set_option maxRecDepth 100000 in
set_option maxHeartbeats 4000000 in
theorem vh_Move {w : World} {b base : Nat} {ks : List (List Int)} {o : Nat → VOb} {kv : Value} {F : Nat → Value} (h : IsVh w b base ks o kv F) (p q : Int) (hq : I64 q) :
    Calls Try.prog 38 #[.pointer (some ⟨b, 0, none⟩), .int .i64 p, .int .i64 q] w (RetMv w b base ks kv F (mvL p q o (allV o)) (cntL p o (allV o))) := by
  have hall := Lib.hid (vh_All h)
  have hmem : ∀ x ∈ allV o, ∃ i : Nat, i < 64 ∧ (o i).used = true ∧ x = -1 - (i : Int) := fun x hx => (allTo_mem o 64 x).1 hx
  have hnd : (allV o).Nodup := allTo_nodup o 64
  have hal : (allV o).length ≤ 64 := allTo_len o 64
  have hrow : ∀ i, i < 64 → ∀ j, (F i).ownBlock = some j → base ≤ j ∧ j < w.heap.size := fun i hi j e => (h.row i hi).lt j e
  have fin := Lib.hid (fun wr n (hn : n = cntL p o (allV o)) (hh : MvSt w b base ks kv F (mvL p q o (allV o)) wr) => show RetMv w b base ks kv F (mvL p q o (allV o)) (cntL p o (allV o)) (.returned (.int .i64 (n : Nat))) wr from
    ⟨by rw [hn], hh.hp, hh.up⟩)
  have h15 := h.few
  have hs0 : MvSt w b base ks kv F (mvL p q o []) w := by
    rw [mvL_nil]
    exact ⟨h, Upd.refl _ _⟩
  generalize allV o = al at *
  clear h
  have Hhmem := Lib.hid hmem; clear hmem
  have Hhnd := Lib.hid hnd; clear hnd
  have Hh15 := Lib.hid h15; clear h15
  go_enter Try.func38, Try.ntmps38
  go_wp2_with (go_at_call 33; (with_reducible refine hall.out.mono ?_); rintro e w2 ⟨aa, ac, rfl, ho2, hu2⟩)
  have hs2 := hs0.still hu2
  have hAI := Lib.hid (fun wr (hh : Upd (fun j => ∃ i, i < 64 ∧ (F i).ownBlock = some j) w2 wr) => show IntsR wr (.slice aa al.length ac) .i64 al from ownsRow_intsR (ownsRow_upd ho2 hh (fun j hj e => by
    obtain ⟨i, hi, e⟩ := e
    have := (hrow i hi j e).2
    omega)))
  clear ho2 hs0 hall
  go_loopw [7, 16] (fun n i wr => ∃ (m c : Nat), i = .int .i64 m ∧ m ≤ al.length ∧ n = .int .i64 c ∧ c ≤ m * 15 ∧ c = cntL p o (al.take m) ∧ MvSt w b base ks kv F (mvL p q o (al.take m)) wr ∧ Upd (fun j => ∃ i, i < 64 ∧ (F i).ownBlock = some j) w2 wr) (fun _ i _ => (64 - intOf i).toNat)
  case atStart => exact ⟨0, 0, rfl, Nat.zero_le _, rfl, Nat.le_refl _, rfl, hs2, Upd.refl _ _⟩
  case round =>
    obtain ⟨m, c, rfl, hm, rfl, hc15, hce, hst, hu⟩ := hrel
    clear hs2
    by_cases hm2 : m = al.length
    · have d2 : ¬ (m : Int) < al.length := by omega
      rw [hm2, List.take_length] at hce hst
      have fin := Lib.hid (fin.out wr c hce hst)
      clear hst hce hu
      go_wp2_with fail
      go_ret
      exact fin.out
    · have hm3 : m < al.length := by omega
      have d2 : (m : Int) < al.length := by omega
      obtain ⟨b1, o1, hix, hb1, hy⟩ := RowsIn.index (P := Try.prog) (hAI.out wr hu) Try.underlying52 (by kernel_rfl) (by kernel_rfl) hm3
      simp only [Nat.mul_one] at hix hy
      have hy0 := hy 0 (by decide)
      simp only [Nat.add_zero] at hy0
      change wr.cell? _ = some (.int .i64 (al.getD m 0)) at hy0
      have htk : al.take (m + 1) = al.take m ++ [al.getD m 0] := by
        rw [List.take_succ_eq_append_getElem hm3]
        simp [List.getD, hm3]
      have hgd : al.getD m 0 = al[m] := by simp [List.getD, hm3]
      obtain ⟨i, hi, hus, hx⟩ := Hhmem.out (al.getD m 0) (by rw [hgd]; exact List.getElem_mem hm3)
      have hnin : (-1 - (i : Int)) ∉ al.take m := by
        rw [← hx, hgd]
        exact nodup_take Hhnd.out hm3
      have hfl := Hh15.out i hi
      have hsn := mvL_snoc p q o (al.take m) i hnin
      have hcn := cntL_snoc p o (al.take m) (-1 - (i : Int))
      rw [show (-1 - (-1 - (i : Int))).toNat = i from by omega] at hcn
      rw [hx] at htk hy0
      rw [← htk] at hsn hcn
      have hom : (mvL p q o (al.take m) i) = o i := by
        unfold mvL
        rw [if_neg hnin]
      have hfd := vh_find hst.hp (-1 - (i : Int))
      rw [findV_place _ i hi, hom, if_pos hus] at hfd
      have hfd := Lib.hid (show Calls Try.prog 61 #[.pointer (some ⟨b, 0, none⟩), .int .i64 (-1 - (i : Int))] wr (RetU wr (.pointer (some ⟨b, 1 + i * 3, none⟩))) from hfd)
      rw [hom] at hsn
      rw [hus] at hsn
      generalize hcnE : cntL p o (al.take (m + 1)) = cn at *
      generalize honE : mvL p q o (al.take (m + 1)) = on at *
      generalize cntL p o (al.take m) = c0 at *
      generalize mvL p q o (al.take m) = om at *
      have hk0 := mvK_zero p q (o i).f
      have hkl := mvK_len p q (o i).f
      have hka := mvK_all p q (o i).f
      have hkg := mvK_get p q (o i).f
      have hks := mvK_succ p q (o i).f
      have hcl := cntF_le p (o i).f
      have hst0 : MvSt w b base ks kv F (setO om i ⟨true, (o i).k, mvK p q (o i).f 0⟩) wr := by
        rw [hk0]
        have := setO_self (o := om) (i := i) (by rw [hom]; exact hus)
        rw [hom] at this
        rw [this]
        exact hst
      have hcF := hst.hp.cell i hi
      obtain ⟨fa, fc, hFe⟩ : ∃ fa fc, F i = .slice fa (o i).f.length fc := by
        have := ownsRow_shape (hst.hp.row i hi)
        rw [hom] at this
        exact this
      have hcF2 := Lib.hid (fun w' (u : Upd (fun _ => False) wr w') => show w'.cell? ⟨b, 1 + i * 3 + 2, none⟩ = some (.slice fa (o i).f.length fc) from by rw [← hFe]; exact ((hst.hp.still u).cell i hi).2.2)
      generalize hf : (o i).f = f at *
      generalize (o i).k = ok at *
      generalize -1 - (i : Int) = x at *
      have hrc := Lib.hid (fun wr t (ht : t < f.length) (hh : MvSt w b base ks kv F (setO om i ⟨true, ok, mvK p q f t⟩) wr) => show ∃ g, fa = some ⟨g, 0, none⟩ ∧ base ≤ g ∧ ∀ w', Upd (fun _ => False) wr w' → ∀ s, s < 5 → w'.cell? ⟨g, t * 5 + s, none⟩ = some ((f.getD t zeroV).cell s) ∧ w'.frozen? ⟨g, t * 5 + s, none⟩ = false from by
        have e := setO_at om i ⟨true, ok, mvK p q f t⟩
        have hl := mvK_len p q f t
        obtain ⟨g, c2, hFg, hg, -, hc⟩ := hh.hp.rowC hi (by rw [e]; show 0 < (mvK p q f t).length; omega)
        rw [e] at hFg hc
        have hFg : F i = .slice (some ⟨g, 0, none⟩) (mvK p q f t).length c2 := hFg
        rw [hFe, hl] at hFg
        cases hFg
        refine ⟨g, rfl, hg, fun w' u s hs => ?_⟩
        have := hc w' u t (by show t < (mvK p q f t).length; omega) s hs
        have this : w'.cell? ⟨g, t * 5 + s, none⟩ = some (((mvK p q f t).getD t zeroV).cell s) ∧ w'.frozen? ⟨g, t * 5 + s, none⟩ = false := this
        rw [mvK_get p q f t ht] at this
        exact this)
      clear hx hgd hnin hy hst htk hom hcF hm2
      obtain ⟨wo, hwo⟩ : ∃ wo : World, wo = wr := ⟨_, rfl⟩
      subst hwo
      have hfl2 : (f.length : Int) ≤ 15 := by omega
      have Hhsn := Lib.hid hsn; clear hsn
      have Hhcn := Lib.hid hcn; clear hcn
      have Hhst0 := Lib.hid hst0; clear hst0
      have Hhk0 := Lib.hid hk0; clear hk0
      have Hhkl := Lib.hid hkl; clear hkl
      have Hhka := Lib.hid hka; clear hka
      have Hhkg := Lib.hid hkg; clear hkg
      have Hhks := Lib.hid hks; clear hks
      have Hhu := Lib.hid hu; clear hu
      have Hhcl := Lib.hid hcl; clear hcl
      have Hhce := Lib.hid hce; clear hce
      have HhcnE := Lib.hid hcnE; clear hcnE
      have HhonE := Lib.hid honE; clear honE
      go_wp2_with (go_at_call 61; (with_reducible refine hfd.out.mono ?_); rintro e w3 ⟨rfl, hu3⟩; have cF := hcF2.out w3 hu3; have Hu3 := Lib.hid hu3; clear hu3)
      have hs3 := Hhst0.out.still Hu3.out
      have hu30 := Hhu.out.trans (Hu3.out.mono (fun _ _ x => x.elim))
      clear cF hfd hcF2
      go_loopw [7, 28] (fun n k wr => ∃ (t d : Nat), k = .int .i64 t ∧ t ≤ f.length ∧ n = .int .i64 d ∧ d = c + cntF p (f.take t) ∧ d ≤ c + t ∧ MvSt w b base ks kv F (setO om i ⟨true, ok, mvK p q f t⟩) wr ∧ Upd (fun j => ∃ i, i < 64 ∧ (F i).ownBlock = some j) w2 wr) (fun _ k _ => (16 - intOf k).toNat)
      case atStart => exact ⟨0, c, rfl, Nat.zero_le _, rfl, by simp [cntF], Nat.le_refl _, hs3, hu30⟩
      case round =>
        obtain ⟨t, d, rfl, ht, rfl, hde, hdl, hst, hu4⟩ := hrel
        clear hs3 hu30
        by_cases ht2 : t = f.length
        · have d3 : ¬ (t : Int) < f.length := by omega
          have hon : MvSt w b base ks kv F on wr := by
            rw [Hhsn.out, ← Hhka.out, ← ht2]
            exact hst
          have hcnt : d = cn := by
            rw [Hhcn.out, hde, ht2, List.take_length, Hhce.out]
          have Hhon := Lib.hid hon; clear hon
          have Hhcnt := Lib.hid hcnt; clear hcnt
          have Hhu4 := Lib.hid hu4; clear hu4
          have Hhde := Lib.hid hde; clear hde
          clear hst ht2
          go_wp2_with fail
          go_roundw
          case rel => exact ⟨m + 1, d, by go_num, by omega, rfl, by omega, by rw [HhcnE.out]; exact Hhcnt.out, by rw [HhonE.out]; exact Hhon.out, Hhu4.out⟩
          case measure => simp [intOf]; omega
        · have ht3 : t < f.length := by omega
          have d3 : (t : Int) < f.length := by omega
          obtain ⟨g, hga, hg, hcs⟩ := hrc.out wr t ht3 hst
          have hix2 := idx_own5 g f.length fc t ht3
          have hFg := Lib.hid (hFe.trans (by rw [hga]))
          rw [← hga] at hix2
          have htk : f.take (t + 1) = f.take t ++ [f.getD t zeroV] := snoc_take f t ht3
          have hcs1 := cntF_snoc p (f.take t) (f.getD t zeroV)
          rw [← htk] at hcs1
          have hS := Lib.hid hst
          have y0 := (hcs wr (Upd.refl _ _) 0 (by decide)).1
          have y1 := (hcs wr (Upd.refl _ _) 1 (by decide)).1
          have y2 := (hcs wr (Upd.refl _ _) 2 (by decide)).1
          have y3 := (hcs wr (Upd.refl _ _) 3 (by decide)).1
          have y4 := (hcs wr (Upd.refl _ _) 4 (by decide)).1
          simp only [Nat.add_zero] at y0
          have hmiss := Lib.hid (fun hz => mv_miss (p := p) (q := q) ht3 hz)
          have hhit := Lib.hid (fun wr' (hh : MvSt w b base ks kv F (setO om i ⟨true, ok, mvK p q f t⟩) wr') hz => mv_hit hh hi ht3 hz hq (hFg.out) hg)
          have hcA := Lib.hid (fun o => hcs (wr.alloc o) ((Upd.refl _ _).alloc _) 4 (by decide))
          generalize f.getD t zeroV = z at *
          obtain ⟨za, zn, zre, zim, zr⟩ := z
          change wr.cell? _ = some (.int .i64 za) at y0
          change wr.cell? _ = some (.int .i64 zn) at y1
          change wr.cell? _ = some (.int .u64 (zre : Int)) at y2
          change wr.cell? _ = some (.int .u64 (zim : Int)) at y3
          change wr.cell? _ = some (.int .i64 zr) at y4
          have ua : Upd (fun _ => False) wr (wr.alloc (.cells #[.int .i64 za, .int .i64 zn, .int .u64 (zre : Int), .int .u64 (zim : Int), .int .i64 zr] 26)) := (Upd.refl _ _).alloc _
          have qa := (hcA.out (.cells #[.int .i64 za, .int .i64 zn, .int .u64 (zre : Int), .int .u64 (zim : Int), .int .i64 zr] 26)).1
          have qf := (hcA.out (.cells #[.int .i64 za, .int .i64 zn, .int .u64 (zre : Int), .int .u64 (zim : Int), .int .i64 zr] 26)).2
          change World.cell? _ _ = some (.int .i64 zr) at qa
          unfold cnt1 at hcs1
          simp only at hcs1 hmiss hhit
          have Hua := Lib.hid ua; clear ua
          have Hhcs1 := Lib.hid hcs1; clear hcs1
          have Hhde := Lib.hid hde; clear hde
          have Hhu4 := Lib.hid hu4; clear hu4
          clear hcs htk hst ht2 hga
          by_cases hza : za = 3
          · subst hza
            by_cases hzr : zr = p
            · subst hzr
              have hc2 := Hhcs1.out
              rw [if_pos ⟨rfl, rfl⟩] at hc2
              have hn := Lib.hid (hhit.out _ (hS.out.still Hua.out) ⟨rfl, rfl⟩)
              have w1 : IntKind.i64.wrap ((d : Int) + 1) = ((d + 1 : Nat) : Int) := by rw [IntKind.wrap_i64]; omega
              have Hhc2 := Lib.hid hc2; clear hc2
              clear hhit hmiss
              go_wp2_with fail
              go_roundw
              case rel => exact ⟨t + 1, d + 1, by go_num, by omega, by first | rfl | (rw [w1]) | go_num, by rw [Hhc2.out, Hhde.out]; omega, by omega, hn.out, (Hhu4.out.trans (Hua.out.mono (fun _ _ x => x.elim))).setCell (fun _ => ⟨i, hi, by rw [hFg.out]; rfl⟩) _⟩
              case measure => simp [intOf]; omega
            · have hc2 := Hhcs1.out
              rw [if_neg (fun h => hzr h.2)] at hc2
              have hmm := hmiss.out (fun h => hzr h.2)
              have e4 : (zr == p) = false := by rw [beq_eq_false_iff_ne]; exact hzr
              have Hhc2 := Lib.hid hc2; clear hc2
              have Hhmm := Lib.hid hmm; clear hmm
              clear hhit hmiss hzr
              go_wp2_with fail
              go_roundw
              case rel => exact ⟨t + 1, d, by go_num, by omega, rfl, by rw [Hhc2.out, Hhde.out]; rfl, by omega, by rw [Hhmm.out]; exact hS.out.still Hua.out, Hhu4.out.trans (Hua.out.mono (fun _ _ x => x.elim))⟩
              case measure => simp [intOf]; omega
          · have hc2 := Hhcs1.out
            rw [if_neg (fun h => hza h.1)] at hc2
            have hmm := hmiss.out (fun h => hza h.1)
            have e4 : (za == 3) = false := by rw [beq_eq_false_iff_ne]; exact hza
            have Hhc2 := Lib.hid hc2; clear hc2
            have Hhmm := Lib.hid hmm; clear hmm
            clear hhit hmiss hza
            go_wp2_with fail
            go_roundw
            case rel => exact ⟨t + 1, d, by go_num, by omega, rfl, by rw [Hhc2.out, Hhde.out]; rfl, by omega, by rw [Hhmm.out]; exact hS.out.still Hua.out, Hhu4.out.trans (Hua.out.mono (fun _ _ x => x.elim))⟩
            case measure => simp [intOf]; omega
end Go.Proofs.Ytcnbcidbbeadcaa
