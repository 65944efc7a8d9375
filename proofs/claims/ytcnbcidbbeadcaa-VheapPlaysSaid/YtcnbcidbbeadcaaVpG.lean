/- The other calls to both: Get, Remove, Keep, Move, Refs and All. -/
import Derived.Test.YtcnbcidbbeadcaaVkB
import Derived.Test.YtcnbcidbbeadcaaVoY
-- merged



namespace Go.Proofs.Ytcnbcidbbeadcaa
open Go.RowKit Go.Deep
set_option linter.unusedVariables false

theorem KOk.mv {o : Nat → VOb} (h : KOk o) (p q : Int) (xs : List Int) : KOk (mvL p q o xs) := by
  intro i x hx
  unfold mvL at hx
  split at hx
  · have hx : x ∈ mvF p q (o i).f := hx
    simp only [mvF, List.mem_map] at hx
    obtain ⟨y, hy, rfl⟩ := hx
    have := h i y hy
    unfold mv1
    split <;> exact this
  · exact h i x hx
theorem KOk.drop {o : Nat → VOb} (h : KOk o) (K : List Int) (n : Nat) : KOk (dropV o K n) := by
  intro i x hx
  unfold dropV at hx
  split at hx
  · simp [noOb] at hx
  · exact h i x hx
theorem KOk.remove {o : Nat → VOb} (h : KOk o) (x : Int) : KOk (removeV o x) := by
  unfold removeV
  split
  · exact h
  · exact h.setO _ _ (fun y hy => by simp [noOb] at hy)
theorem KOk.get {o : Nat → VOb} (h : KOk o) (x j : Int) : 0 ≤ (getV o x j).1.k ∧ (getV o x j).1.k ≤ 3 := by
  have z : 0 ≤ zeroV.k ∧ zeroV.k ≤ 3 := by decide
  unfold getV
  split
  · exact z
  · rename_i i hi
    split
    · exact z
    · rename_i hj
      have hj2 : j.toNat < (o i).f.length := by omega
      have : (o i).f.getD j.toNat zeroV = (o i).f[j.toNat] := by simp [List.getD, hj2]
      show 0 ≤ ((o i).f.getD j.toNat zeroV).k ∧ ((o i).f.getD j.toNat zeroV).k ≤ 3
      rw [this]
      exact h i _ (List.getElem_mem hj2)
section
variable {W : World} {gd : Nat → Prop} {b base m : Nat} {kv kw : Value} {o p : Nat → VOb} {wr : World}
theorem Mid.vAll (h : Mid W gd b base m kv kw o p wr) : Calls Try.prog 76 #[.pointer (some ⟨m, 0, none⟩)] wr (RetNums wr (allV p)) := by
  obtain ⟨F, Kd, G, h1, h2, -, -⟩ := h.st
  exact vo_All h2
theorem Mid.hRefs (h : Mid W gd b base m kv kw o p wr) (x : Int) : Calls Try.prog 37 #[.pointer (some ⟨b, 0, none⟩), .int .i64 x] wr (RetNums wr (refsV o x)) := by
  obtain ⟨F, Kd, G, h1, h2, -, -⟩ := h.st
  exact vh_Refs h1 x
theorem Mid.vGet (h : Mid W gd b base m kv kw o p wr) (f15 : ∀ i, i < 64 → (p i).used = true → (p i).f.length ≤ 15) (x j : Int) : Calls Try.prog 71 #[.pointer (some ⟨m, 0, none⟩), .int .i64 x, .int .i64 j] wr (RetU wr (.tuple #[(getV p x j).1.v, .int .i64 (getV p x j).2])) := by
  obtain ⟨F, Kd, G, h1, h2, -, -⟩ := h.st
  exact vo_Get h2 x j f15
theorem Mid.hRemove (h : Mid W gd b base m kv kw o p wr) (x : Int) : Calls Try.prog 26 #[.pointer (some ⟨b, 0, none⟩), .int .i64 x] wr (MidPost W gd b base m kv kw (removeV o x) p wr (.bool (findV o x).isSome)) := by
  obtain ⟨F, Kd, G, h1, h2, h3, h4⟩ := h.st
  exact (vh_Remove h1 x).mono (fun e w' hh => ⟨hh.1, Mid.hop h1 h2 h3 h4 h.lo h.up hh.2.1 hh.2.2⟩)
theorem Mid.vRemove (h : Mid W gd b base m kv kw o p wr) (x : Int) : Calls Try.prog 73 #[.pointer (some ⟨m, 0, none⟩), .int .i64 x] wr (MidPost W gd b base m kv kw o (removeV p x) wr (.bool (findV p x).isSome)) := by
  obtain ⟨F, Kd, G, h1, h2, h3, h4⟩ := h.st
  exact (vo_Remove h2 x).mono (fun e w' hh => ⟨hh.1, Mid.vop h1 h3 h4 h.lo h.up hh.2.1 hh.2.2⟩)
theorem Mid.hMove (h : Mid W gd b base m kv kw o p wr) (x y : Int) (hy : I64 y) : Calls Try.prog 38 #[.pointer (some ⟨b, 0, none⟩), .int .i64 x, .int .i64 y] wr (MidPost W gd b base m kv kw (mvL x y o (allV o)) p wr (.int .i64 (cntL x o (allV o) : Int))) := by
  obtain ⟨F, Kd, G, h1, h2, h3, h4⟩ := h.st
  exact (vh_Move h1 x y hy).mono (fun e w' hh => ⟨hh.1, Mid.hrow h1 h2 h3 h4 h.lo h.up hh.2.1 hh.2.2⟩)
theorem Mid.vMove (h : Mid W gd b base m kv kw o p wr) (f15 : ∀ i, i < 64 → (p i).used = true → (p i).f.length ≤ 15) (x y : Int) : Calls Try.prog 75 #[.pointer (some ⟨m, 0, none⟩), .int .i64 x, .int .i64 y] wr (MidPost W gd b base m kv kw o (mvL x y p (allV p)) wr (.int .i64 (cntL x p (allV p) : Int))) := by
  obtain ⟨F, Kd, G, h1, h2, h3, h4⟩ := h.st
  exact (vo_Move h2 x y f15).mono (fun e w' hh => ⟨hh.1, Mid.vop h1 h3 h4 h.lo h.up hh.2.1 hh.2.2⟩)
theorem Mid.vKeep (h : Mid W gd b base m kv kw o p wr) (f15 : ∀ i, i < 64 → (p i).used = true → (p i).f.length ≤ 15) (v : Value) (l : List Int) (hl : IntsR wr v .i64 l) (h20 : l.length ≤ 20) : Calls Try.prog 74 #[.pointer (some ⟨m, 0, none⟩), v] wr (MidPost W gd b base m kv kw o (dropV p (keepV p l) 64) wr (.int .i64 (goneTo p (keepV p l) 64 : Int))) := by
  obtain ⟨F, Kd, G, h1, h2, h3, h4⟩ := h.st
  exact (vo_Keep h2 v l hl h20 f15).mono (fun e w' hh => ⟨hh.1, Mid.vop h1 h3 h4 h.lo h.up hh.2.1 hh.2.2⟩)
/-- The document's kind of an object. -/
theorem Mid.vKd (h : Mid W gd b base m kv kw o p wr) (i : Nat) (hi : i < 64) (hu : (p i).used = true) : wr.cell? ⟨m, 65 + i, none⟩ = some (.int .i64 (p i).k) := by
  obtain ⟨F, Kd, G, h1, h2, -, -⟩ := h.st
  rw [← h2.kd i hi hu]
  exact (h2.cell i hi).2.2.1
end
end Go.Proofs.Ytcnbcidbbeadcaa

/- A call to both: Get and Remove. -/

namespace Go.Proofs.Ytcnbcidbbeadcaa
open Go.RowKit Go.Deep
set_option linter.unusedVariables false

set_option maxRecDepth 100000 in
set_option maxHeartbeats 4000000 in
theorem do_Get {W : World} {gd : Nat → Prop} {b base m : Nat} {kv kw : Value} {wr : World} (h : Duo W gd b base m kv kw wr) (co cf xk xn : Int) (xre xim : Nat) (xr : Int) (fa : Option Addr) (fn fc : Nat) :
    Calls Try.prog 42 #[.pointer (some ⟨b, 0, none⟩), .pointer (some ⟨m, 0, none⟩), (.agg #[.int .i64 1, .int .i64 co, .int .i64 cf, .int .i64 xk, .int .i64 xn, .int .u64 (xre : Int), .int .u64 (xim : Int), .int .i64 xr, .slice fa fn fc])] wr (DoPost W gd b base m kv kw wr) := by
  obtain ⟨o, h1, hk⟩ := h
  have hu : Upd (fun _ => False) wr (wr.alloc (.cells #[.int .i64 1, .int .i64 co, .int .i64 cf, .int .i64 xk, .int .i64 xn, .int .u64 (xre : Int), .int .u64 (xim : Int), .int .i64 xr, .slice fa fn fc] 54)) := (Upd.refl _ _).alloc _
  have hB := Lib.hid (Blk.new wr [.int .i64 1, .int .i64 co, .int .i64 cf, .int .i64 xk, .int .i64 xn, .int .u64 (xre : Int), .int .u64 (xim : Int), .int .i64 xr, .slice fa fn fc] 54)
  have hlt := h1.lt
  obtain ⟨f15, fk⟩ := h1.facts
  have hG : Mid W (fun j => gd j ∨ j = wr.heap.size) b base m kv kw o o (wr.alloc (.cells #[.int .i64 1, .int .i64 co, .int .i64 cf, .int .i64 xk, .int .i64 xn, .int .u64 (xre : Int), .int .u64 (xim : Int), .int .i64 xr, .slice fa fn fc] 54)) := h1.guard hu (fun g hh => by
    rcases hh with hh | hh
    · exact Or.inl hh
    · exact Or.inr ⟨by omega, by subst hh; simp⟩)
  have hgk := hk.get co cf
  have hH := fun w' (u : Upd (fun _ => False) (wr.alloc (.cells #[.int .i64 1, .int .i64 co, .int .i64 cf, .int .i64 xk, .int .i64 xn, .int .u64 (xre : Int), .int .u64 (xim : Int), .int .i64 xr, .slice fa fn fc] 54)) w') => (hG.still u).hGet co cf
  have hV := fun w' (u : Upd (fun _ => False) (wr.alloc (.cells #[.int .i64 1, .int .i64 co, .int .i64 cf, .int .i64 xk, .int .i64 xn, .int .u64 (xre : Int), .int .u64 (xim : Int), .int .i64 xr, .slice fa fn fc] 54)) w') => (hG.still u).vGet f15 co cf
  generalize getV o co cf = r at *
  obtain ⟨z, r1⟩ := r
  simp only at hH hV hgk
  have hsv := ref_SameValue z z
  rw [sameV_refl hgk.1 hgk.2] at hsv
  obtain ⟨gk, gn, gre, gim, gr⟩ := z
  have hH := Lib.hid (show ∀ w', Upd (fun _ => False) (wr.alloc (.cells #[.int .i64 1, .int .i64 co, .int .i64 cf, .int .i64 xk, .int .i64 xn, .int .u64 (xre : Int), .int .u64 (xim : Int), .int .i64 xr, .slice fa fn fc] 54)) w' → Calls Try.prog 35 #[.pointer (some ⟨b, 0, none⟩), .int .i64 co, .int .i64 cf] w' (RetU w' (.tuple #[.agg #[.int .i64 gk, .int .i64 gn, .int .u64 (gre : Int), .int .u64 (gim : Int), .int .i64 gr], .int .i64 r1])) from hH)
  have hV := Lib.hid (show ∀ w', Upd (fun _ => False) (wr.alloc (.cells #[.int .i64 1, .int .i64 co, .int .i64 cf, .int .i64 xk, .int .i64 xn, .int .u64 (xre : Int), .int .u64 (xim : Int), .int .i64 xr, .slice fa fn fc] 54)) w' → Calls Try.prog 71 #[.pointer (some ⟨m, 0, none⟩), .int .i64 co, .int .i64 cf] w' (RetU w' (.tuple #[.agg #[.int .i64 gk, .int .i64 gn, .int .u64 (gre : Int), .int .u64 (gim : Int), .int .i64 gr], .int .i64 r1])) from hV)
  have hsv := Lib.hid (show ∀ w, Calls Try.prog 41 #[.agg #[.int .i64 gk, .int .i64 gn, .int .u64 (gre : Int), .int .u64 (gim : Int), .int .i64 gr], .agg #[.int .i64 gk, .int .i64 gn, .int .u64 (gre : Int), .int .u64 (gim : Int), .int .i64 gr]] w (RetU w (.bool true)) from hsv)
  have fin := Lib.hid (fun w2 (u : Upd (fun _ => False) (wr.alloc (.cells #[.int .i64 1, .int .i64 co, .int .i64 cf, .int .i64 xk, .int .i64 xn, .int .u64 (xre : Int), .int .u64 (xim : Int), .int .i64 xr, .slice fa fn fc] 54)) w2) => do_fin (g := 0) hlt (show Duo W (fun j => gd j ∨ j = wr.heap.size) b base m kv kw w2 from ⟨o, hG.still u, hk⟩) hu (u.mono (fun _ _ x => x.elim)))
  clear h1 hk hu hG f15 fk hgk
  go_enter Try.func42, Try.ntmps42
  have k1 := hB.out.cell 1 rfl
  have k2 := hB.out.cell 2 rfl
  go_wp2_with (first
    | (go_at_call 35; (with_reducible refine (hH.out _ (Upd.refl _ _)).mono ?_); rintro e w2 ⟨rfl, hu2⟩; have hT := (hB.out.upd hu2 (fun h => h)).alloc (.cells #[.int .i64 gk, .int .i64 gn, .int .u64 (gre : Int), .int .u64 (gim : Int), .int .i64 gr] 26); have c1 := hT.cell 1 rfl; have c2 := hT.cell 2 rfl; have Hu2 := Lib.hid (hu2.alloc (.cells #[.int .i64 gk, .int .i64 gn, .int .u64 (gre : Int), .int .u64 (gim : Int), .int .i64 gr] 26)); have HB2 := Lib.hid (Blk.new w2 [.int .i64 gk, .int .i64 gn, .int .u64 (gre : Int), .int .u64 (gim : Int), .int .i64 gr] 26); clear hT hu2)
    | (go_at_call 71; (with_reducible refine (hV.out _ Hu2.out).mono ?_); rintro e w3 ⟨rfl, hu3⟩; have hB4 := (HB2.out.upd hu3 (fun h => h)).alloc (.cells #[.int .i64 gk, .int .i64 gn, .int .u64 (gre : Int), .int .u64 (gim : Int), .int .i64 gr] 26); have q0 := hB4.cell 0 rfl; have q1 := hB4.cell 1 rfl; have q2 := hB4.cell 2 rfl; have q3 := hB4.cell 3 rfl; have q4 := hB4.cell 4 rfl; have Hu3 := Lib.hid ((Hu2.out.trans hu3).alloc (.cells #[.int .i64 gk, .int .i64 gn, .int .u64 (gre : Int), .int .u64 (gim : Int), .int .i64 gr] 26)); clear hB4 hu3)
    | (go_at_call 41; (with_reducible refine (hsv.out _).mono ?_); rintro e w4 ⟨rfl, hu4⟩; have H4 := Lib.hid (fin.out w4 (Hu3.out.trans hu4)); clear hu4))
  go_ret
  exact H4.out
set_option maxRecDepth 100000 in
set_option maxHeartbeats 4000000 in
theorem do_Remove {W : World} {gd : Nat → Prop} {b base m : Nat} {kv kw : Value} {wr : World} (h : Duo W gd b base m kv kw wr) (co cf xk xn : Int) (xre xim : Nat) (xr : Int) (fa : Option Addr) (fn fc : Nat) :
    Calls Try.prog 42 #[.pointer (some ⟨b, 0, none⟩), .pointer (some ⟨m, 0, none⟩), (.agg #[.int .i64 3, .int .i64 co, .int .i64 cf, .int .i64 xk, .int .i64 xn, .int .u64 (xre : Int), .int .u64 (xim : Int), .int .i64 xr, .slice fa fn fc])] wr (DoPost W gd b base m kv kw wr) := by
  obtain ⟨o, h1, hk⟩ := h
  have hu : Upd (fun _ => False) wr (wr.alloc (.cells #[.int .i64 3, .int .i64 co, .int .i64 cf, .int .i64 xk, .int .i64 xn, .int .u64 (xre : Int), .int .u64 (xim : Int), .int .i64 xr, .slice fa fn fc] 54)) := (Upd.refl _ _).alloc _
  have hB := Lib.hid (Blk.new wr [.int .i64 3, .int .i64 co, .int .i64 cf, .int .i64 xk, .int .i64 xn, .int .u64 (xre : Int), .int .u64 (xim : Int), .int .i64 xr, .slice fa fn fc] 54)
  have hlt := h1.lt
  obtain ⟨f15, fk⟩ := h1.facts
  have hG : Mid W (fun j => gd j ∨ j = wr.heap.size) b base m kv kw o o (wr.alloc (.cells #[.int .i64 3, .int .i64 co, .int .i64 cf, .int .i64 xk, .int .i64 xn, .int .u64 (xre : Int), .int .u64 (xim : Int), .int .i64 xr, .slice fa fn fc] 54)) := h1.guard hu (fun g hh => by
    rcases hh with hh | hh
    · exact Or.inl hh
    · exact Or.inr ⟨by omega, by subst hh; simp⟩)
  have hH := fun w' (u : Upd (fun _ => False) (wr.alloc (.cells #[.int .i64 3, .int .i64 co, .int .i64 cf, .int .i64 xk, .int .i64 xn, .int .u64 (xre : Int), .int .u64 (xim : Int), .int .i64 xr, .slice fa fn fc] 54)) w') => (hG.still u).hRemove co
  have hV := fun w' (h : Mid W (fun j => gd j ∨ j = wr.heap.size) b base m kv kw (removeV o co) o w') => h.vRemove co
  have hk2 := Lib.hid (hk.remove co)
  generalize removeV o co = o' at *
  generalize (findV o co).isSome = r1 at *
  have fin := Lib.hid (fun w2 (h : Mid W (fun j => gd j ∨ j = wr.heap.size) b base m kv kw o' o' w2) u2 => do_fin (g := 0) hlt (show Duo W (fun j => gd j ∨ j = wr.heap.size) b base m kv kw w2 from ⟨o', h, hk2.out⟩) hu u2)
  have hH := Lib.hid (show ∀ w', Upd (fun _ => False) (wr.alloc (.cells #[.int .i64 3, .int .i64 co, .int .i64 cf, .int .i64 xk, .int .i64 xn, .int .u64 (xre : Int), .int .u64 (xim : Int), .int .i64 xr, .slice fa fn fc] 54)) w' → Calls Try.prog 26 #[.pointer (some ⟨b, 0, none⟩), .int .i64 co] w' (MidPost W (fun j => gd j ∨ j = wr.heap.size) b base m kv kw o' o w' (.bool r1)) from hH)
  have hV := Lib.hid (show ∀ w', Mid W (fun j => gd j ∨ j = wr.heap.size) b base m kv kw o' o w' → Calls Try.prog 73 #[.pointer (some ⟨m, 0, none⟩), .int .i64 co] w' (MidPost W (fun j => gd j ∨ j = wr.heap.size) b base m kv kw o' o' w' (.bool r1)) from hV)
  have huD := Lib.hid (fun nq w' (u : Upd (fun j => ¬ (gd j ∨ j = wr.heap.size)) ((wr.alloc (.cells #[.int .i64 3, .int .i64 co, .int .i64 cf, .int .i64 xk, .int .i64 xn, .int .u64 (xre : Int), .int .u64 (xim : Int), .int .i64 xr, .slice fa fn fc] 54)).drewN nq) w') => show Upd (fun j => ¬ (gd j ∨ j = wr.heap.size)) (wr.alloc (.cells #[.int .i64 3, .int .i64 co, .int .i64 cf, .int .i64 xk, .int .i64 xn, .int .u64 (xre : Int), .int .u64 (xim : Int), .int .i64 xr, .slice fa fn fc] 54)) w' from ((Upd.refl _ _).drewN nq).trans u)
  have e0 : (r1 == r1) = true := by simp
  clear h1 hk hu hG f15 fk
  go_enter Try.func42, Try.ntmps42
  have k1 := hB.out.cell 1 rfl
  go_wp2_with fail
  refine wp_hide (fun Q2 hQ2 => ?_)
  go_region_held3 (fun w' => w'.cell? ⟨wr.heap.size, 1, none⟩ = some (.int .i64 co))
    (((try go_split_ands); first | assumption | simpa using k1))
    (((try go_split_ands); first
      | (go_at_call 26; (with_reducible refine (hH.out _ (by first | exact (Upd.refl _ _) | exact (Upd.refl _ _).drew | exact (Upd.refl _ _).drewN _)).mono ?_); rintro e w2 ⟨rfl, h2, hu2⟩; have hu2b := huD.out _ w2 hu2; have hT := hB.out.upd hu2b (fun e => e (Or.inr rfl)); have c1 := hT.cell 1 rfl; have HT2 := Lib.hid hT; have Hu2 := Lib.hid hu2b; have V2 := Lib.hid (hV.out _ h2); clear hT hu2 hu2b h2)
      | (go_at_call 73; (with_reducible refine V2.out.mono ?_); rintro e w3 ⟨rfl, h3, hu3⟩; have H3 := Lib.hid (fin.out w3 h3 (Hu2.out.trans hu3)); have hT3 := HT2.out.upd hu3 (fun e => e (Or.inr rfl)); have d1 := hT3.cell 1 rfl; clear hT3 h3 hu3)))
  all_goals
    rw [hQ2.out]
    go_wp2_with fail
    go_ret
    exact H3.out
end Go.Proofs.Ytcnbcidbbeadcaa

/- A call to both: Keep. -/

namespace Go.Proofs.Ytcnbcidbbeadcaa
open Go.RowKit Go.Deep
set_option linter.unusedVariables false

set_option maxRecDepth 100000 in
set_option maxHeartbeats 4000000 in
theorem do_Keep {W : World} {gd : Nat → Prop} {b base m : Nat} {kv kw : Value} {wr : World} (h : Duo W gd b base m kv kw wr) (co cf xk xn : Int) (xre xim : Nat) (xr : Int) (fa : Option Addr) (fn fc : Nat) (fs : List Int) (hfs : IntsR W (.slice fa fn fc) .i64 fs) (hfn : fn = fs.length) (h20 : ¬ (20 : Int) < fn) :
    Calls Try.prog 42 #[.pointer (some ⟨b, 0, none⟩), .pointer (some ⟨m, 0, none⟩), (.agg #[.int .i64 4, .int .i64 co, .int .i64 cf, .int .i64 xk, .int .i64 xn, .int .u64 (xre : Int), .int .u64 (xim : Int), .int .i64 xr, .slice fa fn fc])] wr (DoPost W gd b base m kv kw wr) := by
  obtain ⟨o, h1, hk⟩ := h
  have hu : Upd (fun _ => False) wr (wr.alloc (.cells #[.int .i64 4, .int .i64 co, .int .i64 cf, .int .i64 xk, .int .i64 xn, .int .u64 (xre : Int), .int .u64 (xim : Int), .int .i64 xr, .slice fa fn fc] 54)) := (Upd.refl _ _).alloc _
  have hB := Lib.hid (Blk.new wr [.int .i64 4, .int .i64 co, .int .i64 cf, .int .i64 xk, .int .i64 xn, .int .u64 (xre : Int), .int .u64 (xim : Int), .int .i64 xr, .slice fa fn fc] 54)
  have hlt := h1.lt
  obtain ⟨f15, fk⟩ := h1.facts
  have hG : Mid W (fun j => gd j ∨ j = wr.heap.size) b base m kv kw o o (wr.alloc (.cells #[.int .i64 4, .int .i64 co, .int .i64 cf, .int .i64 xk, .int .i64 xn, .int .u64 (xre : Int), .int .u64 (xim : Int), .int .i64 xr, .slice fa fn fc] 54)) := h1.guard hu (fun g hh => by
    rcases hh with hh | hh
    · exact Or.inl hh
    · exact Or.inr ⟨by omega, by subst hh; simp⟩)
  have hH := fun w' (u : Upd (fun _ => False) (wr.alloc (.cells #[.int .i64 4, .int .i64 co, .int .i64 cf, .int .i64 xk, .int .i64 xn, .int .u64 (xre : Int), .int .u64 (xim : Int), .int .i64 xr, .slice fa fn fc] 54)) w') => (hG.still u).hKeep (.slice fa fn fc) fs (ints_upd hfs (hG.still u).up)
  have hV := fun w' (h : Mid W (fun j => gd j ∨ j = wr.heap.size) b base m kv kw (dropV o (keepV o fs) 64) o w') => h.vKeep f15 (.slice fa fn fc) fs (ints_upd hfs h.up) (by omega)
  have hk2 := Lib.hid (hk.drop (keepV o fs) 64)
  generalize dropV o (keepV o fs) 64 = o' at *
  generalize goneTo o (keepV o fs) 64 = r1 at *
  have fin := Lib.hid (fun w2 (h : Mid W (fun j => gd j ∨ j = wr.heap.size) b base m kv kw o' o' w2) u2 => do_fin (g := 0) hlt (show Duo W (fun j => gd j ∨ j = wr.heap.size) b base m kv kw w2 from ⟨o', h, hk2.out⟩) hu u2)
  have hH := Lib.hid (show ∀ w', Upd (fun _ => False) (wr.alloc (.cells #[.int .i64 4, .int .i64 co, .int .i64 cf, .int .i64 xk, .int .i64 xn, .int .u64 (xre : Int), .int .u64 (xim : Int), .int .i64 xr, .slice fa fn fc] 54)) w' → Calls Try.prog 44 #[.pointer (some ⟨b, 0, none⟩), .slice fa fn fc] w' (MidPost W (fun j => gd j ∨ j = wr.heap.size) b base m kv kw o' o w' (.int .i64 (r1 : Int))) from hH)
  have hV := Lib.hid (show ∀ w', Mid W (fun j => gd j ∨ j = wr.heap.size) b base m kv kw o' o w' → Calls Try.prog 74 #[.pointer (some ⟨m, 0, none⟩), .slice fa fn fc] w' (MidPost W (fun j => gd j ∨ j = wr.heap.size) b base m kv kw o' o' w' (.int .i64 (r1 : Int))) from hV)
  have huD := Lib.hid (fun nq w' (u : Upd (fun j => ¬ (gd j ∨ j = wr.heap.size)) ((wr.alloc (.cells #[.int .i64 4, .int .i64 co, .int .i64 cf, .int .i64 xk, .int .i64 xn, .int .u64 (xre : Int), .int .u64 (xim : Int), .int .i64 xr, .slice fa fn fc] 54)).drewN nq) w') => show Upd (fun j => ¬ (gd j ∨ j = wr.heap.size)) (wr.alloc (.cells #[.int .i64 4, .int .i64 co, .int .i64 cf, .int .i64 xk, .int .i64 xn, .int .u64 (xre : Int), .int .u64 (xim : Int), .int .i64 xr, .slice fa fn fc] 54)) w' from ((Upd.refl _ _).drewN nq).trans u)
  have e0 : ((r1 : Int) == (r1 : Int)) = true := by simp
  have hd : decide ((20 : Int) < fn) = false := by simp; omega
  clear h1 hk hu hG f15 fk hfs hfn h20
  go_enter Try.func42, Try.ntmps42
  have k8 := hB.out.cell 8 rfl
  go_wp2_with fail
  refine wp_hide (fun Q2 hQ2 => ?_)
  go_region_held3 (fun w' => w'.cell? ⟨wr.heap.size, 8, none⟩ = some (.slice fa fn fc))
    (((try go_split_ands); first | assumption | simpa using k8))
    (((try go_split_ands); first
      | (go_at_call 44; (with_reducible refine (hH.out _ (by first | exact (Upd.refl _ _) | exact (Upd.refl _ _).drew | exact (Upd.refl _ _).drewN _)).mono ?_); rintro e w2 ⟨rfl, h2, hu2⟩; have hu2b := huD.out _ w2 hu2; have hT := hB.out.upd hu2b (fun e => e (Or.inr rfl)); have c8 := hT.cell 8 rfl; have HT2 := Lib.hid hT; have Hu2 := Lib.hid hu2b; have V2 := Lib.hid (hV.out _ h2); clear hT hu2 hu2b h2)
      | (go_at_call 74; (with_reducible refine V2.out.mono ?_); rintro e w3 ⟨rfl, h3, hu3⟩; have H3 := Lib.hid (fin.out w3 h3 (Hu2.out.trans hu3)); have hT3 := HT2.out.upd hu3 (fun e => e (Or.inr rfl)); have d8 := hT3.cell 8 rfl; clear hT3 h3 hu3)))
  all_goals
    rw [hQ2.out]
    go_wp2_with fail
    go_ret
    exact H3.out
set_option maxRecDepth 100000 in
set_option maxHeartbeats 4000000 in
theorem do_Long {W : World} {gd : Nat → Prop} {b base m : Nat} {kv kw : Value} {wr : World} (h : Duo W gd b base m kv kw wr) (co cf xk xn : Int) (xre xim : Nat) (xr : Int) (fa : Option Addr) (fn fc : Nat) (h20 : (20 : Int) < fn) :
    Calls Try.prog 42 #[.pointer (some ⟨b, 0, none⟩), .pointer (some ⟨m, 0, none⟩), (.agg #[.int .i64 4, .int .i64 co, .int .i64 cf, .int .i64 xk, .int .i64 xn, .int .u64 (xre : Int), .int .u64 (xim : Int), .int .i64 xr, .slice fa fn fc])] wr (DoPost W gd b base m kv kw wr) := by
  obtain ⟨o, h1, hk⟩ := h
  have hu : Upd (fun _ => False) wr (wr.alloc (.cells #[.int .i64 4, .int .i64 co, .int .i64 cf, .int .i64 xk, .int .i64 xn, .int .u64 (xre : Int), .int .u64 (xim : Int), .int .i64 xr, .slice fa fn fc] 54)) := (Upd.refl _ _).alloc _
  have hB := Lib.hid (Blk.new wr [.int .i64 4, .int .i64 co, .int .i64 cf, .int .i64 xk, .int .i64 xn, .int .u64 (xre : Int), .int .u64 (xim : Int), .int .i64 xr, .slice fa fn fc] 54)
  have hlt := h1.lt
  obtain ⟨f15, fk⟩ := h1.facts
  have hG : Mid W (fun j => gd j ∨ j = wr.heap.size) b base m kv kw o o (wr.alloc (.cells #[.int .i64 4, .int .i64 co, .int .i64 cf, .int .i64 xk, .int .i64 xn, .int .u64 (xre : Int), .int .u64 (xim : Int), .int .i64 xr, .slice fa fn fc] 54)) := h1.guard hu (fun g hh => by
    rcases hh with hh | hh
    · exact Or.inl hh
    · exact Or.inr ⟨by omega, by subst hh; simp⟩)
  have fin := Lib.hid (fun w2 (u : Upd (fun _ => False) (wr.alloc (.cells #[.int .i64 4, .int .i64 co, .int .i64 cf, .int .i64 xk, .int .i64 xn, .int .u64 (xre : Int), .int .u64 (xim : Int), .int .i64 xr, .slice fa fn fc] 54)) w2) => do_fin (g := 0) hlt (show Duo W (fun j => gd j ∨ j = wr.heap.size) b base m kv kw w2 from ⟨o, hG.still u, hk⟩) hu (u.mono (fun _ _ x => x.elim)))
  have hd : decide ((20 : Int) < fn) = true := by simp; omega
  clear h1 hk hu hG f15 fk h20
  go_enter Try.func42, Try.ntmps42
  go_wp2_with fail
  refine wp_hide (fun Q2 hQ2 => ?_)
  generalize (wr.alloc (.cells #[.int .i64 4, .int .i64 co, .int .i64 cf, .int .i64 xk, .int .i64 xn, .int .u64 (xre : Int), .int .u64 (xim : Int), .int .i64 xr, .slice fa fn fc] 54)) = wa at *
  have k8 := fun (s : Later wa) => show s.val.cell? ⟨wr.heap.size, 8, none⟩ = some (.slice fa fn fc) from (hB.out.upd s.up (fun x => x)).cell 8 rfl
  refine wp_region_later (by kernel_rfl) (by kernel_rfl) ?_
  repeat (go_big_quiet_step (fail))
  refine wpQuiet_nil ?_
  intro w4 hw4
  have u4 : Upd (fun _ => False) wa w4 := by
    obtain ⟨s, rfl⟩ := hw4
    exact s.up
  clear hw4
  rw [hQ2.out]
  go_wp2_with fail
  go_ret
  exact fin.out _ u4
end Go.Proofs.Ytcnbcidbbeadcaa

/- A call to both: Move. -/

namespace Go.Proofs.Ytcnbcidbbeadcaa
open Go.RowKit Go.Deep
set_option linter.unusedVariables false

set_option maxRecDepth 100000 in
set_option maxHeartbeats 4000000 in
theorem do_Move {W : World} {gd : Nat → Prop} {b base m : Nat} {kv kw : Value} {wr : World} (h : Duo W gd b base m kv kw wr) (co cf xk xn : Int) (xre xim : Nat) (xr : Int) (fa : Option Addr) (fn fc : Nat) (hcf : I64 cf) (cd : Int) (n0 : cd ≠ 0) (n1 : cd ≠ 1) (n2 : cd ≠ 2) (n3 : cd ≠ 3) (n4 : cd ≠ 4) :
    Calls Try.prog 42 #[.pointer (some ⟨b, 0, none⟩), .pointer (some ⟨m, 0, none⟩), (.agg #[.int .i64 cd, .int .i64 co, .int .i64 cf, .int .i64 xk, .int .i64 xn, .int .u64 (xre : Int), .int .u64 (xim : Int), .int .i64 xr, .slice fa fn fc])] wr (DoPost W gd b base m kv kw wr) := by
  obtain ⟨o, h1, hk⟩ := h
  have hu : Upd (fun _ => False) wr (wr.alloc (.cells #[.int .i64 cd, .int .i64 co, .int .i64 cf, .int .i64 xk, .int .i64 xn, .int .u64 (xre : Int), .int .u64 (xim : Int), .int .i64 xr, .slice fa fn fc] 54)) := (Upd.refl _ _).alloc _
  have hB := Lib.hid (Blk.new wr [.int .i64 cd, .int .i64 co, .int .i64 cf, .int .i64 xk, .int .i64 xn, .int .u64 (xre : Int), .int .u64 (xim : Int), .int .i64 xr, .slice fa fn fc] 54)
  have hlt := h1.lt
  obtain ⟨f15, fk⟩ := h1.facts
  have hG : Mid W (fun j => gd j ∨ j = wr.heap.size) b base m kv kw o o (wr.alloc (.cells #[.int .i64 cd, .int .i64 co, .int .i64 cf, .int .i64 xk, .int .i64 xn, .int .u64 (xre : Int), .int .u64 (xim : Int), .int .i64 xr, .slice fa fn fc] 54)) := h1.guard hu (fun g hh => by
    rcases hh with hh | hh
    · exact Or.inl hh
    · exact Or.inr ⟨by omega, by subst hh; simp⟩)
  have hH := fun w' (u : Upd (fun _ => False) (wr.alloc (.cells #[.int .i64 cd, .int .i64 co, .int .i64 cf, .int .i64 xk, .int .i64 xn, .int .u64 (xre : Int), .int .u64 (xim : Int), .int .i64 xr, .slice fa fn fc] 54)) w') => (hG.still u).hMove co cf hcf
  have hV := fun w' (h : Mid W (fun j => gd j ∨ j = wr.heap.size) b base m kv kw (mvL co cf o (allV o)) o w') => h.vMove f15 co cf
  have hk2 := Lib.hid (hk.mv co cf (allV o))
  generalize mvL co cf o (allV o) = o' at *
  generalize cntL co o (allV o) = r1 at *
  have fin := Lib.hid (fun w2 (h : Mid W (fun j => gd j ∨ j = wr.heap.size) b base m kv kw o' o' w2) u2 => do_fin (g := 0) hlt (show Duo W (fun j => gd j ∨ j = wr.heap.size) b base m kv kw w2 from ⟨o', h, hk2.out⟩) hu u2)
  have hH := Lib.hid (show ∀ w', Upd (fun _ => False) (wr.alloc (.cells #[.int .i64 cd, .int .i64 co, .int .i64 cf, .int .i64 xk, .int .i64 xn, .int .u64 (xre : Int), .int .u64 (xim : Int), .int .i64 xr, .slice fa fn fc] 54)) w' → Calls Try.prog 38 #[.pointer (some ⟨b, 0, none⟩), .int .i64 co, .int .i64 cf] w' (MidPost W (fun j => gd j ∨ j = wr.heap.size) b base m kv kw o' o w' (.int .i64 (r1 : Int))) from hH)
  have hV := Lib.hid (show ∀ w', Mid W (fun j => gd j ∨ j = wr.heap.size) b base m kv kw o' o w' → Calls Try.prog 75 #[.pointer (some ⟨m, 0, none⟩), .int .i64 co, .int .i64 cf] w' (MidPost W (fun j => gd j ∨ j = wr.heap.size) b base m kv kw o' o' w' (.int .i64 (r1 : Int))) from hV)
  have huD := Lib.hid (fun nq w' (u : Upd (fun j => ¬ (gd j ∨ j = wr.heap.size)) ((wr.alloc (.cells #[.int .i64 cd, .int .i64 co, .int .i64 cf, .int .i64 xk, .int .i64 xn, .int .u64 (xre : Int), .int .u64 (xim : Int), .int .i64 xr, .slice fa fn fc] 54)).drewN nq) w') => show Upd (fun j => ¬ (gd j ∨ j = wr.heap.size)) (wr.alloc (.cells #[.int .i64 cd, .int .i64 co, .int .i64 cf, .int .i64 xk, .int .i64 xn, .int .u64 (xre : Int), .int .u64 (xim : Int), .int .i64 xr, .slice fa fn fc] 54)) w' from ((Upd.refl _ _).drewN nq).trans u)
  have e0 : ((r1 : Int) == (r1 : Int)) = true := by simp
  clear h1 hk hu hG f15 fk hcf
  go_enter Try.func42, Try.ntmps42
  have k1 := hB.out.cell 1 rfl
  have k2 := hB.out.cell 2 rfl
  go_wp2_with fail
  refine wp_hide (fun Q2 hQ2 => ?_)
  go_region_held3 (fun w' => w'.cell? ⟨wr.heap.size, 1, none⟩ = some (.int .i64 co) ∧ w'.cell? ⟨wr.heap.size, 2, none⟩ = some (.int .i64 cf))
    (((try go_split_ands); exact ⟨by first | assumption | simpa using k1, by first | assumption | simpa using k2⟩))
    (((try go_split_ands); first
      | (go_at_call 38; (with_reducible refine (hH.out _ (by first | exact (Upd.refl _ _) | exact (Upd.refl _ _).drew | exact (Upd.refl _ _).drewN _)).mono ?_); rintro e w2 ⟨rfl, h2, hu2⟩; have hu2b := huD.out _ w2 hu2; have hT := hB.out.upd hu2b (fun e => e (Or.inr rfl)); have c1 := hT.cell 1 rfl; have c2 := hT.cell 2 rfl; have HT2 := Lib.hid hT; have Hu2 := Lib.hid hu2b; have V2 := Lib.hid (hV.out _ h2); clear hT hu2 hu2b h2)
      | (go_at_call 75; (with_reducible refine V2.out.mono ?_); rintro e w3 ⟨rfl, h3, hu3⟩; have H3 := Lib.hid (fin.out w3 h3 (Hu2.out.trans hu3)); have hT3 := HT2.out.upd hu3 (fun e => e (Or.inr rfl)); have d1 := hT3.cell 1 rfl; have d2 := hT3.cell 2 rfl; clear hT3 h3 hu3)))
  all_goals
    rw [hQ2.out]
    go_wp2_with fail
    go_ret
    exact H3.out
end Go.Proofs.Ytcnbcidbbeadcaa

/- Any call to both. -/

namespace Go.Proofs.Ytcnbcidbbeadcaa
open Go.RowKit Go.Deep
set_option linter.unusedVariables false

theorem do_Call {W : World} {gd : Nat → Prop} {b base m : Nat} {kv kw : Value} {wr : World} (h : Duo W gd b base m kv kw wr) (cd co cf xk xn : Int) (xre xim : Nat) (xr : Int) (hv : (⟨xk, xn, xre, xim, xr⟩ : Val).ok) (hcf : I64 cf) (fa : Option Addr) (fn fc : Nat) (fs : List Int) (hfs : IntsR W (.slice fa fn fc) .i64 fs) (hfn : fn = fs.length) :
    Calls Try.prog 42 #[.pointer (some ⟨b, 0, none⟩), .pointer (some ⟨m, 0, none⟩), (.agg #[.int .i64 cd, .int .i64 co, .int .i64 cf, .int .i64 xk, .int .i64 xn, .int .u64 (xre : Int), .int .u64 (xim : Int), .int .i64 xr, .slice fa fn fc])] wr (DoPost W gd b base m kv kw wr) := by
  by_cases h0 : cd = 0
  · subst h0; exact do_Make h co cf xk xn xre xim xr fa fn fc
  by_cases h1 : cd = 1
  · subst h1; exact do_Get h co cf xk xn xre xim xr fa fn fc
  by_cases h2 : cd = 2
  · subst h2; exact do_Set h co cf xk xn xre xim xr hv fa fn fc
  by_cases h3 : cd = 3
  · subst h3; exact do_Remove h co cf xk xn xre xim xr fa fn fc
  by_cases h4 : cd = 4
  · subst h4
    by_cases h20 : (20 : Int) < fn
    · exact do_Long h co cf xk xn xre xim xr fa fn fc h20
    · exact do_Keep h co cf xk xn xre xim xr fa fn fc fs hfs hfn h20
  · exact do_Move h co cf xk xn xre xim xr fa fn fc hcf cd h0 h1 h2 h3 h4
end Go.Proofs.Ytcnbcidbbeadcaa

