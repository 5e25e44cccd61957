/- Calls among all blocks of the caller's; code carried out by reckoning alone. -/
import Derived.Test.YtemdbhdjchkllaaVu
namespace Go.Proofs.Ytemdbhdjchkllaa.VL
open Go
set_option linter.unusedVariables false
set_option linter.unusedSimpArgs false

def IOp.at (o : Nat) : IOp → IOp
  | .alloc s z => .alloc (o + s) z
  | .box s sz x => .box (o + s) sz x
  | .mksl s sz b z l c => .mksl (o + s) sz b z l c
  | .app s sz b z x y => .app (o + s) sz b z x y
  | .call s f args => .call (o + s) f args
  | .callv s x args => .callv (o + s) x args
  | x => x
def IOper.at (o : Nat) (x : IOper) : IOper := ⟨x.dst, x.op.at o, x.guard⟩
def atOps (o : Nat) : List IOper → List IOper
  | [] => []
  | x :: r => x.at o :: atOps o r
def ICode.at (o : Nat) : ICode → ICode
  | .reg d ops => .reg d (atOps o ops)
  | .seq a b => .seq (a.at o) (b.at o)
  | .cond c a b => .cond c (a.at o) (b.at o)
  | .blk id b => .blk id (b.at o)
  | .loop b => .loop (b.at o)
  | x => x

theorem Weak.take (st : St) (k : Nat) : Weak st ⟨st.t, st.h.take k, st.n⟩ := by
  intro C a E I
  have get : ∀ (b : Nat) (x : Nat × Blk), (st.h.take k)[b]? = some (some x) → st.h[b]? = some (some x) := by
    intro b x h
    rw [List.getElem?_take] at h
    split at h
    · exact h
    · cases h
  have at_ : ∀ (b s : Nat) (k' : Blk) (en : Ent), At E (st.h.take k) b s k' en → At E st.h b s k' en := fun b s k' en A => ⟨get _ _ A.slot, A.σ⟩
  refine ⟨E, rfl, { good := ⟨I.good.free, ?_, fun b1 b2 s1 s2 k1 k2 en1 en2 A1 A2 => I.good.inj _ _ _ _ _ _ _ _ (at_ _ _ _ _ A1) (at_ _ _ _ _ A2), I.good.stay⟩, since := I.since, touch := fun b s k en A => I.touch b s k en (at_ _ _ _ _ A), defers := I.defers, tsize := I.tsize, tmps := I.tmps }⟩
  intro b s k' hb
  obtain ⟨en, A, h⟩ := I.good.blk b s k' (get _ _ hb)
  exact ⟨en, ⟨hb, A.σ⟩, h⟩

/-- A call among all blocks, out of the code. -/
theorem gcall_of {P : Program} (hm : P.follows .mixedOrders = true) {f : Nat} {fn : Func} {c : Code} {ic : ICode} {ts : List Nat} {args : List PV} {h h' : List Slot} {n n' : Nat} {r : PV} {slot : Option Nat → Nat}
    (hf : P.funcs[f]? = some fn) (hb : fn.body = some c) (hcl : callable P f = true) (hr : fn.results = (ts.map ResultVar.tmp).toArray) (hic : cCode P slot c = some ic) (m : Nat)
    (hK : icWp P ic (fun e st => (e = .normal ∨ e = .ret) ∧ ∃ st', Weak st st' ∧ resV st' ts = r ∧ st'.h = h' ∧ st'.n = n') ⟨args ++ List.replicate (fn.ntmps - args.length) (.v undef), h ++ List.replicate m none, n⟩) :
    GCall P f args h n r h' n' := by
  refine ⟨hcl, fun C t a E vals I hv hargs => calls_of_wp hf hb ?_⟩
  let a0 : Act := { tmps := vals ++ Array.replicate (fn.ntmps - vals.size) undef, defers := [] }
  let C' : Ctx := ⟨E.w, E.σ, fun r => ∃ (b s : Nat) (k : Blk) (en : Ent), At E h b s k en ∧ en.tot ≠ 0 ∧ en.rb = r, E.S⟩
  have get : ∀ (b : Nat) (x : Nat × Blk), (h ++ List.replicate m none)[b]? = some (some x) → h[b]? = some (some x) := by
    intro b x hx
    rw [List.getElem?_append] at hx
    split at hx
    · exact hx
    · have := List.mem_of_getElem? hx
      simp at this
  have at_ : ∀ (b s : Nat) (k' : Blk) (en : Ent), At E (h ++ List.replicate m none) b s k' en → At E h b s k' en := fun b s k' en A => ⟨get _ _ A.slot, A.σ⟩
  have I0 : InvE C' ⟨args ++ List.replicate (fn.ntmps - args.length) (.v undef), h ++ List.replicate m none, n⟩ a0 E := by
    refine { good := ⟨I.good.free, ?_, fun b1 b2 s1 s2 k1 k2 en1 en2 A1 A2 => I.good.inj _ _ _ _ _ _ _ _ (at_ _ _ _ _ A1) (at_ _ _ _ _ A2), I.good.stay⟩, since := ⟨rfl, rfl, rfl, Nat.le_refl _, fun _ _ _ => rfl, fun _ _ h => h, fun _ h => h, fun _ h => .inl h⟩, touch := fun b s k en A h0 => .inl ⟨b, s, k, en, at_ _ _ _ _ A, h0, rfl⟩, defers := rfl, tsize := ?_, tmps := ?_ }
    · intro b s k' hb
      obtain ⟨en, A, h⟩ := I.good.blk b s k' (get _ _ hb)
      exact ⟨en, ⟨hb, A.σ⟩, h⟩
    · simp [a0, hv]
    · intro i p u hp hu
      simp only [List.getElem?_append] at hp
      simp only [a0, Array.getElem?_append, hv] at hu
      split at hp
      · rename_i hlt
        rw [if_pos hlt] at hu
        exact hargs i p u hp hu
      · rename_i hge
        rw [if_neg hge] at hu
        have hp' := List.mem_of_getElem? hp
        have hu' := Array.mem_of_getElem? hu
        simp at hp' hu'
        rw [hp'.2, hu'.2]
        exact .v _
  refine wp_mono (icWp_sound hm c ic _ _ a0 E hic I0 hK) ?_
  rintro e a1 w ⟨i, st, E1, rfl, rfl, I1, hi, st', hw, hres, rfl, rfl⟩
  obtain ⟨E2, e2, I2⟩ := hw _ a1 E1 I1
  have hd := I2.defers
  have getV : ∀ t : Nat, Rep E2 (st'.ev (.t t)) (a1.tmps.getD t undef) := fun t => ev_rep (x := .tmp t) I2 rfl
  have hrep : Rep E2 (resV st' ts) (resU (fun t => a1.tmps.getD t undef) ts) := by
    have tup : ∀ ts : List Nat, Rep E2 (.tup (ts.map fun t => st'.ev (.t t))) (.tuple (ts.map fun t => a1.tmps.getD t undef).toArray) := by
      intro ts
      refine .tup _ _ (by simp) ?_
      intro i c u hc hu
      simp only [List.getElem?_map, Option.map_eq_some_iff, List.getElem?_toArray] at hc hu
      obtain ⟨t, h1, rfl⟩ := hc
      obtain ⟨t', h2, rfl⟩ := hu
      rw [h1] at h2; cases h2
      exact getV t
    match ts with
    | [] => exact tup []
    | [t] => exact getV t
    | t :: t' :: r => exact tup _
  have hS : ∀ r, E.S r → E2.w.heap[r]? = E.w.heap[r]? := fun r hr => I2.since.kept r (I.good.stay r hr) fun ⟨b, s, k, en, A, h0, he⟩ => (A.brep I.good).2 h0 (he ▸ hr)
  have J : InvE C ⟨t, st'.h, st'.n⟩ a E2 := I.step (E' := E2) ⟨I2.since.S1, hS, I2.since.σ⟩ I2.since.os I2.since.tape I2.since.output I2.since.size (fun r hr => I2.since.S2 r hr) (fun r hr hn => I2.since.kept r hr fun ⟨b, s, k, en, A, h0, he⟩ => hn b s k en A h0 he) I2.good I2.touch
  have post : a1.defers = [] ∧ ∃ v, (results fn a1.tmps).run P E1.w = .ok v E1.w ∧ ∃ v' E', Ending.returned v = .returned v' ∧ E'.w = E1.w ∧ InvE C ⟨t, st'.h, st'.n⟩ a E' ∧ Rep E' r v' :=
    ⟨hd, _, run_results hr a1.tmps P E1.w, _, E2, rfl, e2, J, hres ▸ hrep⟩
  rcases hi with rfl | rfl
  · exact post
  · exact post

/-! ### Reckoning with data -/
def isIntB : PV → Bool | .v (.int _ _) => true | _ => false
def isStrB : PV → Bool | .v (.string _) => true | _ => false
def bndB (ρ : Opd → PV) : Option Opd → Bool | none => true | some x => isIntB (ρ x)
def slotB (h : List Slot) (b s : Nat) : Bool := match h[b]? with | some (some (s', .cells _)) => s' == s | _ => false
theorem isIntB_ok {p : PV} (h : isIntB p = true) : isInt p := by
  unfold isIntB at h; split at h
  · exact trivial
  · cases h
theorem isStrB_ok {p : PV} (h : isStrB p = true) : isStr p := by
  unfold isStrB at h; split at h
  · exact trivial
  · cases h
theorem bndB_ok {ρ : Opd → PV} {x : Option Opd} (h : bndB ρ x = true) : bndOk ρ x := by
  cases x with
  | none => exact trivial
  | some x => exact isIntB_ok h
theorem slotB_ok {h : List Slot} {b s : Nat} (hb : slotB h b s = true) : slotIs h b s := by
  unfold slotB at hb; unfold slotIs
  split at hb
  · rename_i heq; simp only [heq]; simpa using hb
  · cases hb

def opOkB (ρ : Opd → PV) (h : List Slot) (n : Nat) : IOp → Bool
  | .mov _ => true
  | .alloc s z => s < h.length && z.stor && 0 < z.cells.length
  | .box s sz x => s < h.length && (ρ x).stor && 0 < sz && (ρ x).cells.length == sz
  | .bld z ps => (fillV ρ z ps).isSome
  | .bsl sz z len ps => 0 < sz && len * sz ≤ 16777216 && z.cells.length == sz && z.stor && ps.all fun p => (ρ p.2).cells.length == sz && (ρ p.2).stor && p.1 < len
  | .load g m a => match ρ a with | .optr b s i off => slotB h b s && i < (blkEs h b s).length && (ldv g m (rowAt h b s i) off).isSome | .sptr cs => (ldv g m (.agg cs) 0).isSome | _ => false
  | .store m a x => match ρ a with | .optr b s i off => slotB h b s && i < (blkEs h b s).length && (ρ x).stor && (stv (rowAt h b s i) off m (ρ x)).isSome | _ => false
  | .nilc x => match ρ x with | .optr .. | .sptr _ | .clo .. => true | _ => false
  | .bin op x y => (binV op (ρ x) (ρ y)).isSome
  | .binB _ x y => match ρ x, ρ y with | .v (.bool _), .v (.bool _) => true | _, _ => false
  | .eqA _ sz plan x y => match ρ x, ρ y with | .agg cs, .agg ds => (eqVs sz plan cs ds).isSome | _, _ => false
  | .un op x => (unV op (ρ x)).isSome
  | .conv _ x => isIntB (ρ x)
  | .convS x => isStrB (ρ x)
  | .fn .. => true
  | .mksl s sz bytes z l c => isIntB (ρ l) && isIntB (ρ c) && s < h.length && 0 < sz && z.cells.length == sz && z.stor && 0 ≤ intOf' (ρ l) && intOf' (ρ l) ≤ intOf' (ρ c) && intOf' (ρ c) * bytes ≤ 70368744177664 && intOf' (ρ c) ≤ 70368744177664
  | .slc sz x lo hi mx => bndB ρ lo && bndB ρ hi && bndB ρ mx && match ρ x with
      | .sl _ es => (es.all fun e => e.cells.length == sz) && 0 ≤ bndV ρ 0 lo && bndV ρ 0 lo ≤ bndV ρ es.length hi && bndV ρ es.length hi ≤ bndV ρ es.length mx && bndV ρ es.length mx ≤ es.length
      | .own _ _ sz' _ len cap => sz' == sz && 0 ≤ bndV ρ 0 lo && bndV ρ 0 lo ≤ bndV ρ len hi && bndV ρ len hi ≤ bndV ρ (cap.getD len : Nat) mx && bndV ρ (cap.getD len : Nat) mx ≤ (cap.getD len : Nat)
      | _ => false
  | .slS x lo hi => isStrB (ρ x) && bndB ρ lo && bndB ρ hi && 0 ≤ bndV ρ 0 lo && bndV ρ 0 lo ≤ bndV ρ (strOf (ρ x)).size hi && bndV ρ (strOf (ρ x)).size hi ≤ (strOf (ρ x)).size
  | .fad _ x => match ρ x with | .optr .. | .sptr _ => true | _ => false
  | .fld g off m x => match ρ x with | .agg cs => (g || m == 1) && (ldv g m (.agg cs) off).isSome | _ => false
  | .iad sz x i => isIntB (ρ i) && 0 ≤ intOf' (ρ i) && match ρ x with
      | .sl _ es => intOf' (ρ i) < es.length && (es.getD (intOf' (ρ i)).toNat .dead).cells.length == sz
      | .own _ _ sz' _ len _ => sz' == sz && intOf' (ρ i) < len
      | _ => false
  | .iaA len _ x i => isIntB (ρ i) && 0 ≤ intOf' (ρ i) && intOf' (ρ i) < len && match ρ x with | .optr .. | .sptr _ => true | _ => false
  | .ixA g len sz x i => isIntB (ρ i) && 0 ≤ intOf' (ρ i) && intOf' (ρ i) < len && (g || sz == 1) && match ρ x with | .agg cs => (ldv g sz (.agg cs) ((intOf' (ρ i)).toNat * sz)).isSome | _ => false
  | .ixS x i => isStrB (ρ x) && isIntB (ρ i) && 0 ≤ intOf' (ρ i) && intOf' (ρ i) < (strOf (ρ x)).size
  | .ext x i => match ρ x with | .tup cs => i < cs.length | _ => false
  | .len x => match ρ x with | .sl .. | .own .. => true | _ => false
  | .lenS x => isStrB (ρ x)
  | .mm mx xs => (mmV mx (xs.map ρ)).isSome
  | .cpy sz x y => match ρ x with
      | .own b st sz' off len _ => sz' == sz && slotB h b st && off + len ≤ (blkEs h b st).length && (elems h (ρ y)).isSome && ((elems h (ρ y)).getD []).all fun e => e.cells.length == sz
      | .sl _ [] => (elems h (ρ y)).isSome
      | _ => false
  | _ => false

theorem opOkB_ok {ρ : Opd → PV} {h : List Slot} {n : Nat} {op : IOp} (hb : opOkB ρ h n op = true) : opOk ρ h n op := by
  cases op with
  | bsl sz z len ps =>
    simp only [opOkB, Bool.and_eq_true, decide_eq_true_eq, beq_iff_eq, List.all_eq_true] at hb
    obtain ⟨⟨⟨⟨h1, h2⟩, h3⟩, h4⟩, h5⟩ := hb
    exact ⟨h1, h2, h3, h4, fun p hp => ⟨(h5 p hp).1.1, (h5 p hp).1.2, (h5 p hp).2⟩⟩
  | load g m a =>
    simp only [opOkB, opOk] at hb ⊢
    generalize ρ a = q at hb ⊢; cases q <;> simp only [Bool.and_eq_true, decide_eq_true_eq] at hb ⊢ <;> first | exact ⟨slotB_ok hb.1.1, hb.1.2, hb.2⟩ | exact hb | cases hb
  | store m a x =>
    simp only [opOkB, opOk] at hb ⊢
    generalize ρ a = q at hb ⊢; cases q <;> simp only [Bool.and_eq_true, decide_eq_true_eq] at hb ⊢ <;> first | exact ⟨slotB_ok hb.1.1.1, hb.1.1.2, hb.1.2, hb.2⟩ | cases hb
  | nilc x => simp only [opOkB, opOk] at hb ⊢; generalize ρ x = q at hb ⊢; cases q <;> first | exact trivial | cases hb
  | eqA g sz pl x y =>
    simp only [opOkB, opOk] at hb ⊢
    split at hb
    · rename_i h1 h2; simp only [h1, h2]; exact hb
    · cases hb
  | binB g x y =>
    simp only [opOkB, opOk] at hb ⊢
    split at hb
    · rename_i h1 h2; simp only [h1, h2]
    · cases hb
  | conv k x => exact isIntB_ok hb
  | convS x => exact isStrB_ok hb
  | lenS x => exact isStrB_ok hb
  | fn f fs cs => exact trivial
  | mov x => exact trivial
  | mksl s sz b z l c =>
    simp only [opOkB, Bool.and_eq_true, decide_eq_true_eq, beq_iff_eq] at hb
    obtain ⟨⟨⟨⟨⟨⟨⟨⟨⟨h1, h2⟩, h3⟩, h4⟩, h5⟩, h6⟩, h7⟩, h8⟩, h9⟩, h10⟩ := hb
    exact ⟨isIntB_ok h1, isIntB_ok h2, h3, h4, h5, h6, h7, h8, h9, h10⟩
  | slc sz x lo hi mx =>
    simp only [opOkB, Bool.and_eq_true] at hb
    obtain ⟨⟨⟨h1, h2⟩, h3⟩, h4⟩ := hb
    refine ⟨bndB_ok h1, bndB_ok h2, bndB_ok h3, ?_⟩
    generalize ρ x = q at h4 ⊢; cases q <;> simp only [Bool.and_eq_true, decide_eq_true_eq, beq_iff_eq, List.all_eq_true] at h4 ⊢ <;> first | cases h4; done | exact ⟨h4.1.1.1.1, h4.1.1.1.2, h4.1.1.2, h4.1.2, h4.2⟩
  | slS x lo hi =>
    simp only [opOkB, Bool.and_eq_true, decide_eq_true_eq] at hb
    exact ⟨isStrB_ok hb.1.1.1.1.1, bndB_ok hb.1.1.1.1.2, bndB_ok hb.1.1.1.2, hb.1.1.2, hb.1.2, hb.2⟩
  | fad off x => simp only [opOkB, opOk] at hb ⊢; generalize ρ x = q at hb ⊢; cases q <;> first | exact trivial | cases hb
  | fld g off m x =>
    simp only [opOkB, opOk] at hb ⊢
    generalize ρ x = q at hb ⊢; cases q <;> simp only [Bool.and_eq_true] at hb ⊢ <;> first | cases hb; done | (refine ⟨fun hg => ?_, hb.2⟩; have := hb.1; subst hg; simpa using this)
  | iad sz x i =>
    simp only [opOkB, Bool.and_eq_true, decide_eq_true_eq] at hb
    refine ⟨isIntB_ok hb.1.1, hb.1.2, ?_⟩
    have h2 := hb.2
    generalize ρ x = q at h2 ⊢; cases q <;> simp only [Bool.and_eq_true, decide_eq_true_eq, beq_iff_eq] at h2 ⊢ <;> first | cases h2; done | exact h2
  | iaA len sz x i =>
    simp only [opOkB, Bool.and_eq_true, decide_eq_true_eq] at hb
    refine ⟨isIntB_ok hb.1.1.1, hb.1.1.2, hb.1.2, ?_⟩
    have h2 := hb.2
    generalize ρ x = q at h2 ⊢; cases q <;> first | exact trivial | cases h2
  | ixA g len sz x i =>
    simp only [opOkB, Bool.and_eq_true, decide_eq_true_eq] at hb
    refine ⟨isIntB_ok hb.1.1.1.1, hb.1.1.1.2, hb.1.1.2, fun hg => ?_, ?_⟩
    · have := hb.1.2; subst hg; simpa using this
    · have h2 := hb.2
      generalize ρ x = q at h2 ⊢; cases q <;> first | exact h2 | cases h2
  | ixS x i =>
    simp only [opOkB, Bool.and_eq_true, decide_eq_true_eq] at hb
    exact ⟨isStrB_ok hb.1.1.1, isIntB_ok hb.1.1.2, hb.1.2, hb.2⟩
  | ext x i => simp only [opOkB, opOk] at hb ⊢; generalize ρ x = q at hb ⊢; cases q <;> simp only [decide_eq_true_eq] at hb ⊢ <;> first | exact hb | cases hb
  | len x => simp only [opOkB, opOk] at hb ⊢; generalize ρ x = q at hb ⊢; cases q <;> first | exact trivial | cases hb
  | cpy sz x y =>
    simp only [opOkB, opOk] at hb ⊢
    split at hb
    · rename_i hev
      simp only [hev, Bool.and_eq_true, decide_eq_true_eq, beq_iff_eq, List.all_eq_true] at hb ⊢
      exact ⟨hb.1.1.1.1, slotB_ok hb.1.1.1.2, hb.1.1.2, hb.1.2, hb.2⟩
    · rename_i hev; simp only [hev]; exact hb
    · cases hb
  | alloc s z => simp only [opOkB, opOk, Bool.and_eq_true, decide_eq_true_eq] at hb ⊢; exact ⟨hb.1.1, hb.1.2, hb.2⟩
  | box s sz x => simp only [opOkB, opOk, Bool.and_eq_true, decide_eq_true_eq, beq_iff_eq] at hb ⊢; exact ⟨hb.1.1.1, hb.1.1.2, hb.1.2, hb.2⟩
  | bld z ps => exact hb
  | bin op x y => exact hb
  | un op x => exact hb
  | mm g xs => exact hb
  | _ => cases hb

def appTry (h : List Slot) (n s sz bytes : Nat) (ys : List PV) : PV → Option (PV × List Slot × Nat)
  | .sl true es => if (es.all fun e => e.cells.length == sz) && (es.length + ys.length) * bytes ≤ 70368744177664 && es.length + ys.length ≤ 70368744177664 then
      (if ys.isEmpty then some (.sl true es, h, n) else some (.own s n sz 0 (es.length + ys.length) none, h.set s (some (n, .cells (es ++ ys))), n + 1)) else none
  | .sl false [] => if ys.length * bytes ≤ 70368744177664 && ys.length ≤ 70368744177664 then none else none
  | .own b st sz' off len cap => if sz' == sz && slotB h b st && off + len ≤ (blkEs h b st).length && (len + ys.length) * bytes ≤ 70368744177664 && len + ys.length ≤ 70368744177664 then
      (match cap with
      | some c => if len + ys.length ≤ c then (if off + len + ys.length ≤ (blkEs h b st).length then some (.own b st sz off (len + ys.length) cap, h.set b (some (st, .cells ((blkEs h b st).take (off + len) ++ ys ++ (blkEs h b st).drop (off + len + ys.length)))), n) else none)
          else some (.own s n sz 0 (len + ys.length) none, h.set s (some (n, .cells (((blkEs h b st).drop off).take len ++ ys))), n + 1)
      | none => if off + len + ys.length ≤ (blkEs h b st).length then some (.own b st sz off (len + ys.length) none, h.set b (some (st, .cells ((blkEs h b st).take (off + len) ++ ys ++ (blkEs h b st).drop (off + len + ys.length)))), n)
          else some (.own b n sz 0 (len + ys.length) none, h.set b (some (n, .cells (((blkEs h b st).drop off).take len ++ ys))), n + 1)) else none
  | _ => none

def opTry (ρ : Opd → PV) (h : List Slot) (n : Nat) : IOp → Option (PV × List Slot × Nat)
  | .pick c a b => match ρ c with | .v (.bool true) => some (ρ a, h, n) | .v (.bool false) => some (ρ b, h, n) | _ => none
  | .nilq neg x => match ρ x with | .sl _ (_ :: _) => some (.v (.bool neg), h, n) | .own _ _ _ _ (_ + 1) _ => some (.v (.bool neg), h, n) | _ => none
  | .cap x => match ρ x with | .sl true es => some (.v (.int .i64 es.length), h, n) | .own _ _ _ _ _ (some c) => some (.v (.int .i64 c), h, n) | _ => none
  | .app s sz bytes z x y => if s < h.length && 0 < sz && z.cells.length == sz && z.stor then
      (match elems h (ρ y) with | some ys => if ys.all fun e => e.cells.length == sz then appTry h n s sz bytes ys (ρ x) else none | none => none) else none
  | op => if opOkB ρ h n op then some (opRes ρ h n op) else none

theorem opTry_ok {ρ : Opd → PV} {h : List Slot} {n : Nat} {op : IOp} {K : PV → List Slot → Nat → Prop} {p : PV} {h' : List Slot} {n' : Nat} (ho : opTry ρ h n op = some (p, h', n')) (hK : K p h' n') : opK ρ h n K op := by
  have base : (if opOkB ρ h n op then some (opRes ρ h n op) else none) = some (p, h', n') → opK ρ h n K op := by
    intro h1
    split at h1
    · rename_i hb
      refine opK_of (opOkB_ok hb) ?_
      simp only [Option.some.injEq] at h1
      rw [h1]; exact hK
    · cases h1
  cases op with
  | pick c a b =>
    simp only [opTry] at ho
    simp only [opK]
    split at ho
    · rename_i hev; cases ho; simp only [hev]; exact ⟨fun _ => hK, by simp⟩
    · rename_i hev; cases ho; simp only [hev]; exact ⟨by simp, fun _ => hK⟩
    · cases ho
  | nilq g x =>
    simp only [opTry] at ho
    simp only [opK]
    split at ho
    · rename_i hev; cases ho; simp only [hev]; exact ⟨by simp, hK⟩
    · rename_i hev; cases ho; simp only [hev]; exact ⟨by simp, hK⟩
    · cases ho
  | cap x =>
    simp only [opTry] at ho
    simp only [opK]
    split at ho
    · rename_i hev; cases ho; simp only [hev]; exact hK
    · rename_i hev; cases ho; simp only [hev]; exact hK
    · cases ho
  | app s sz bytes z x y =>
    simp only [opTry] at ho
    simp only [opK]
    split at ho
    · rename_i h0
      simp only [Bool.and_eq_true, decide_eq_true_eq, beq_iff_eq] at h0
      split at ho
      · rename_i ys hys
        split at ho
        · rename_i hall
          simp only [List.all_eq_true, beq_iff_eq] at hall
          refine ⟨h0.1.1.1, h0.1.1.2, h0.1.2, h0.2, ys, hys, hall, ?_⟩
          unfold appTry at ho
          split at ho
          · rename_i es hev
            split at ho
            · rename_i hc
              simp only [Bool.and_eq_true, decide_eq_true_eq, beq_iff_eq, List.all_eq_true] at hc
              simp only [hev]
              refine ⟨hc.1.1, hc.1.2, hc.2, fun he => ?_, fun he => ?_⟩
              · simp only [he, List.isEmpty_nil, if_true] at ho; cases ho; exact hK
              · rw [if_neg (by simpa using he)] at ho; cases ho; exact hK
            · cases ho
          · split at ho <;> cases ho
          · rename_i b st sz' off len cap hev
            split at ho
            · rename_i hc
              simp only [Bool.and_eq_true, decide_eq_true_eq, beq_iff_eq] at hc
              simp only [hev]
              refine ⟨hc.1.1.1.1, _, slotIs_spec (slotB_ok hc.1.1.1.2), hc.1.1.2, hc.1.2, hc.2, ?_⟩
              split at ho
              · rename_i c
                simp only
                split at ho
                · rename_i hl
                  rw [if_pos hl]
                  split at ho
                  · rename_i hl2; cases ho; exact ⟨hl2, hK⟩
                  · cases ho
                · rename_i hl; rw [if_neg hl]; cases ho; exact hK
              · simp only
                split at ho
                · rename_i hl; rw [if_pos hl]; cases ho; exact hK
                · rename_i hl; rw [if_neg hl]; cases ho; exact hK
            · cases ho
          · cases ho
        · cases ho
      · cases ho
    · cases ho
  | _ => exact base ho
end Go.Proofs.Ytemdbhdjchkllaa.VL
