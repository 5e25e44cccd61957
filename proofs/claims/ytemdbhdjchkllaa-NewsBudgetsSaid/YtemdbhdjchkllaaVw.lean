/- Functions carried out by reckoning alone, from data. -/
import Derived.Test.YtemdbhdjchkllaaVv
namespace Go.Proofs.Ytemdbhdjchkllaa.VL
open Go
set_option linter.unusedVariables false
set_option linter.unusedSimpArgs false

/-- A function, made ready. -/
structure FI where
  ic : ICode
  al : List Nat
  nt : Nat
  ts : List Nat
def FI.ok (P : Program) (f : Nat) (x : FI) : Prop := ∃ fn c, P.funcs[f]? = some fn ∧ fn.body = some c ∧ callable P f = true ∧ fn.results = (x.ts.map ResultVar.tmp).toArray ∧ fn.ntmps = x.nt ∧ (fun o => cCode P (slotF x.al o) c) = fun o => some (x.ic.at o)
def find (f : Nat) : List (Nat × FI) → Option FI
  | [] => none
  | x :: r => if x.1 = f then some x.2 else find f r
def TabOk (P : Program) : List (Nat × FI) → Prop
  | [] => True
  | x :: r => x.2.ok P x.1 ∧ TabOk P r
theorem find_ok {P : Program} {f : Nat} {y : FI} : ∀ {tab : List (Nat × FI)}, TabOk P tab → find f tab = some y → y.ok P f
  | [], _, h => by cases h
  | x :: r, ht, h => by
    simp only [find] at h
    split at h
    · rename_i he; cases h; rw [← he]; exact ht.1
    · exact find_ok ht.2 h

abbrev Callee := Nat → List PV → List Slot → Nat → Option (PV × List Slot × Nat)

def frzAll (st : St) : St := (List.range st.h.length).foldl St.freeze st
theorem Weak.frzAll (st : St) : Weak st (VL.frzAll st) := by
  unfold VL.frzAll
  have : ∀ (l : List Nat) (st : St), Weak st (l.foldl St.freeze st) := by
    intro l
    induction l with
    | nil => exact fun st => Weak.refl st
    | cons b r ih => exact fun st => (Weak.freeze st b).trans (ih _)
  exact this _ st

def shut (r : PV) (h : List Slot) (n : Nat) : Option PV := match (frzAll ⟨[r], h, n⟩).t with
  | [r'] => if closed r' then some r' else none
  | _ => none

def evC (C : Callee) (d : Bool) (f : Nat) (args : List PV) (st : St) : Option (PV × List Slot × Nat) :=
  match d with
  | false => C f args st.h st.n
  | true => if closedL args then (match C f args [none] 0 with
    | some (r, h, n) => (match shut r h n with | some r' => some (r', st.h, st.n) | none => none)
    | none => none) else none

def ev1 (C : Callee) (o : Nat) (d : Bool) (st : St) : IOp → Option (PV × List Slot × Nat)
  | .call _ f args => evC C d f (args.map st.ev) st
  | .callv _ x args => match st.ev x with | .clo f fs cs => evC C d f (fs ++ args.map st.ev ++ cs) st | _ => none
  | op => opTry st.ev st.h st.n (op.at o)

def evOps (C : Callee) (o : Nat) (d : Bool) : List IOper → St → Option St
  | [], st => some st
  | x :: r, st => match x.guard with
    | none => (match ev1 C o d st x.op with | some (p, h, n) => evOps C o d r (St.put ⟨st.t, h, n⟩ x.dst p) | none => none)
    | some (g, want) => match st.t[g]? with
      | some (.v (.bool b)) => if b = want then (match ev1 C o d st x.op with | some (p, h, n) => evOps C o d r (St.put ⟨st.t, h, n⟩ x.dst p) | none => none) else evOps C o d r (st.put x.dst (.v undef))
      | some (.v _) => evOps C o d r (st.put x.dst (.v undef))
      | _ => none

def evLoop (body : St → Option (IExit × St)) : Nat → St → Option (IExit × St)
  | 0, _ => none
  | m + 1, st => match body st with
    | some (.normal, st') => evLoop body m st'
    | r => r

def evCode (C : Callee) (o F : Nat) : ICode → St → Option (IExit × St)
  | .skip, st => some (.normal, st)
  | .reg d ops, st => match evOps C o d ops st with | some st' => some (.normal, st') | none => none
  | .seq a b, st => match evCode C o F a st with | some (.normal, st') => evCode C o F b st' | r => r
  | .cond c a b, st => match st.ev c with | .v (.bool true) => evCode C o F a st | .v (.bool false) => evCode C o F b st | _ => none
  | .blk id b, st => match evCode C o F b st with | some (.exit i, st') => if i = id then some (.normal, st') else some (.exit i, st') | r => r
  | .loop b, st => evLoop (evCode C o F b) F st
  | .exit id, st => some (.exit id, st)
  | .ret, st => some (.ret, st)
  | .bad, _ => none

mutual
/-- Does it name a block from stamp n on? -/
def newP (n : Nat) : PV → Bool
  | .v _ => false
  | .agg cs => newL n cs
  | .tup cs => newL n cs
  | .sl _ es => newL n es
  | .own _ s _ _ _ _ => n ≤ s
  | .optr _ s _ _ => n ≤ s
  | .sptr cs => newL n cs
  | .clo _ fs cs => newL n fs || newL n cs
  | .mp _ s => n ≤ s
  | .dead => false
def newL (n : Nat) : List PV → Bool
  | [] => false
  | p :: r => newP n p || newL n r
end
def newB (n : Nat) : Blk → Bool
  | .cells es => newL n es
  | .map ps => ps.any fun p => newP n p.1 || newP n p.2

/-- Slots that nothing names any more are let go. -/
def trim (k n : Nat) (r : PV) (h : List Slot) : List Slot :=
  if newP n r || (h.take k).any (fun x => match x with | some (s, b) => decide (n ≤ s) || newB n b | none => false) then h else h.take k

/-- What a function made is frozen, of some functions. -/
def frzFrom (fz : Bool) (k : Nat) (st : St) : St := if fz then (List.range st.h.length).foldl (fun s b => if k ≤ b then s.freeze b else s) st else st
theorem Weak.frzFrom (fz : Bool) (k : Nat) (st : St) : Weak st (VL.frzFrom fz k st) := by
  unfold VL.frzFrom
  split
  · have : ∀ (l : List Nat) (st : St), Weak st (l.foldl (fun s b => if k ≤ b then s.freeze b else s) st) := by
      intro l
      induction l with
      | nil => exact fun st => Weak.refl st
      | cons b r ih =>
        intro st
        rw [List.foldl_cons]
        split
        · exact (Weak.freeze st b).trans (ih _)
        · exact ih _
    exact this _ st
  · exact Weak.refl st

/-- The end of a call: value, slots, stamp. -/
def fin (k n : Nat) (ts : List Nat) (st : St) : PV × List Slot × Nat := (resV st ts, trim k n (resV st ts) st.h, st.n)

def evCall (ov : Callee) (fz : List Nat) (tab : List (Nat × FI)) (F : Nat) : Nat → Callee
  | 0, _, _, _, _ => none
  | D + 1, f, args, h, n => match ov f args h n with
  | some y => some y
  | none => match find f tab with
    | none => none
    | some x => match evCode (evCall ov fz tab F D) h.length F x.ic ⟨args ++ List.replicate (x.nt - args.length) (.v undef), h ++ List.replicate (x.al.length + 1) none, n⟩ with
      | some (.normal, st) => some (fin h.length n x.ts (frzFrom (fz.contains f) h.length st))
      | some (.ret, st) => some (fin h.length n x.ts (frzFrom (fz.contains f) h.length st))
      | _ => none

variable {P : Program}

def CalleeOk (P : Program) (C : Callee) : Prop := ∀ (f : Nat) (args : List PV) (h : List Slot) (n : Nat) (r : PV) (h' : List Slot) (n' : Nat), C f args h n = some (r, h', n') → GCall P f args h n r h' n'

theorem vpure_of_g {f : Nat} {args : List PV} {r r' : PV} {h : List Slot} {n : Nat} (hG : GCall P f args [none] 0 r h n) (ha : closedL args = true) (hs : shut r h n = some r') : VPure P f args r' := by
  unfold shut at hs
  split at hs
  · rename_i r1 ht
    split at hs
    · rename_i hc
      cases hs
      refine ⟨ha, hc, hG.1, fun W S ents vals hel J hv hargs => ?_⟩
      obtain rfl : ents = [] := by simpa using hel
      refine (hG.2 _ [] emptyAct _ vals J hv hargs).mono ?_
      rintro e W' ⟨v, E', rfl, rfl, I', hR⟩
      have I1 : InvE ⟨W, (([] : List Ent)[·]?), handed [], S⟩ ⟨[r], h, n⟩ { tmps := #[v], defers := [] } E' :=
        { good := I'.good, since := I'.since, touch := I'.touch, defers := rfl, tsize := rfl, tmps := by
            intro i p u hp hu
            cases i with
            | zero => simp at hp hu; subst hp hu; exact hR
            | succ i => simp at hp }
      obtain ⟨E2, e2, I2⟩ := Weak.frzAll ⟨[r], h, n⟩ _ _ _ I1
      obtain ⟨σ', F, hren⟩ := fin_sound I2 none (.inl rfl)
      have h0 := I2.tmps 0 r' v (by rw [ht]; rfl) rfl
      refine ⟨v, r', [], none, σ', E2.S, rfl, rfl, rfl, ?_, ?_⟩
      · rw [← e2]; exact F
      · rw [← e2]
        have := hren r' v h0
        rwa [ren_closed _ r' hc] at this
    · cases hs
  · cases hs

theorem evC_ok {C : Callee} (hC : CalleeOk P C) {d : Bool} {s f : Nat} {args : List PV} {st : St} {p : PV} {h' : List Slot} {n' : Nat} {K : PV → List Slot → Nat → Prop} (h : evC C d f args st = some (p, h', n')) (hK : K p h' n') : callK P d st s f args K := by
  cases d with
  | false => exact .inr (.inr ⟨rfl, p, h', n', hC _ _ _ _ _ _ _ h, hK⟩)
  | true =>
    simp only [evC] at h
    split at h
    · rename_i ha
      split at h
      · rename_i r h1 n1 hcall
        split at h
        · rename_i r' hs
          cases h
          exact .inl ⟨_, vpure_of_g (hC _ _ _ _ _ _ _ hcall) ha hs, hK⟩
        · cases h
      · cases h
    · cases h

theorem ev1_op {C : Callee} {o : Nat} {d : Bool} {st : St} {op : IOp} (h : op.isCall = false) : ev1 C o d st op = opTry st.ev st.h st.n (op.at o) := by
  cases op <;> first | rfl | cases h

theorem ev1_ok {C : Callee} (hC : CalleeOk P C) {o : Nat} {d : Bool} {x : IOper} {st : St} {p : PV} {h' : List Slot} {n' : Nat} {K : St → Prop} (h : ev1 C o d st x.op = some (p, h', n')) (hK : K (St.put ⟨st.t, h', n'⟩ x.dst p)) : execK P d (x.at o) st K := by
  obtain ⟨dst, op, g⟩ := x
  cases op with
  | call s f args => exact evC_ok hC (K := fun p h n => K (St.put ⟨st.t, h, n⟩ dst p)) h hK
  | callv s y args =>
    change (match st.ev y with | .clo f fs cs => evC C d f (fs ++ args.map st.ev ++ cs) st | _ => none) = some (p, h', n') at h
    show (match st.ev y with | .clo f fs cs => callK P d st (o + s) f (fs ++ args.map st.ev ++ cs) fun p h n => K (St.put ⟨st.t, h, n⟩ dst p) | _ => False)
    split at h
    · exact evC_ok hC (K := fun p h n => K (St.put ⟨st.t, h, n⟩ dst p)) h hK
    · cases h
  | _ =>
    rw [ev1_op rfl] at h
    exact opTry_ok (K := fun p h n => K (St.put ⟨st.t, h, n⟩ dst p)) h hK

theorem evOps_ok {C : Callee} (hC : CalleeOk P C) {o : Nat} {d : Bool} {Q : St → Prop} : ∀ (l : List IOper) (st st' : St), evOps C o d l st = some st' → Q st' → opsK P d Q (atOps o l) st
  | [], st, st', h, hQ => by cases h; exact hQ
  | x :: r, st, st', h, hQ => by
    simp only [evOps] at h
    show opsK P d Q (x.at o :: atOps o r) st
    rw [opsK]
    have hg : (x.at o).guard = x.guard := rfl
    have hd : (x.at o).dst = x.dst := rfl
    rw [hg, hd]
    split at h
    · rename_i g0
      simp only [g0]
      split at h
      · rename_i p h1 n1 he
        exact ev1_ok hC he (evOps_ok hC r _ _ h hQ)
      · cases h
    · rename_i g want g0
      simp only [g0]
      split at h
      · rename_i b hb
        simp only [hb]
        split at h
        · rename_i hbw
          split at h
          · rename_i p h1 n1 he
            exact ⟨fun _ => ev1_ok hC he (evOps_ok hC r _ _ h hQ), fun hn => by rw [hbw] at hn; cases want <;> cases hn⟩
          · cases h
        · rename_i hbw
          exact ⟨fun he => absurd he hbw, fun _ => evOps_ok hC r _ _ h hQ⟩
      · rename_i u hne hb
        simp only [hb]
        exact evOps_ok hC r _ _ h hQ
      · cases h

theorem evCode_ok {C : Callee} (hC : CalleeOk P C) {o F : Nat} : ∀ (ic : ICode) (Q : IExit → St → Prop) (st : St) (e : IExit) (st' : St), evCode C o F ic st = some (e, st') → Q e st' → icWp P (ic.at o) Q st := by
  intro ic
  induction ic with
  | skip => intro Q st e st' h hQ; cases h; exact hQ
  | reg d ops =>
    intro Q st e st' h hQ
    simp only [evCode] at h
    split at h
    · rename_i st1 h1; cases h; exact evOps_ok hC ops st _ h1 hQ
    · cases h
  | seq a b iha ihb =>
    intro Q st e st' h hQ
    simp only [evCode] at h
    split at h
    · rename_i st1 h1
      exact iha (thenQ (icWp P (b.at o) Q) Q) st _ _ h1 (ihb Q _ _ _ h hQ)
    · rename_i hne
      refine iha (thenQ (icWp P (b.at o) Q) Q) st e st' h ?_
      cases e with
      | normal => exact absurd h (hne _)
      | exit id => exact hQ
      | ret => exact hQ
  | cond c a b iha ihb =>
    intro Q st e st' h hQ
    simp only [evCode] at h
    simp only [ICode.at, icWp]
    split at h
    · rename_i hev; simp only [hev]; exact ⟨fun _ => iha Q st e st' h hQ, by simp⟩
    · rename_i hev; simp only [hev]; exact ⟨by simp, fun _ => ihb Q st e st' h hQ⟩
    · cases h
  | blk id b ih =>
    intro Q st e st' h hQ
    simp only [evCode] at h
    show icWp P (b.at o) (blkQ id Q) st
    split at h
    · rename_i i st1 h1
      refine ih _ st _ _ h1 ?_
      simp only [blkQ]
      split at h
      · rename_i hi; cases h; rw [if_pos hi]; exact hQ
      · rename_i hi; cases h; rw [if_neg hi]; exact hQ
    · rename_i hne
      refine ih _ st e st' h ?_
      cases e with
      | normal => exact hQ
      | exit i => exact absurd h (hne _ _)
      | ret => exact hQ
  | loop b ih =>
    intro Q st e st' h hQ
    simp only [evCode] at h
    refine ⟨fun m x => evLoop (evCode C o F b) m x = some (e, st'), F, ⟨st, Weak.refl st, h⟩, fun m x hx => ?_⟩
    cases m with
    | zero => cases hx
    | succ m =>
      simp only [evLoop] at hx
      split at hx
      · rename_i x1 h1
        exact ih _ x _ _ h1 ⟨m, Nat.lt_succ_self m, x1, Weak.refl x1, hx⟩
      · rename_i hne
        refine ih _ x e st' hx ?_
        cases e with
        | normal => exact absurd hx (hne _)
        | exit i => exact hQ
        | ret => exact hQ
  | exit id => intro Q st e st' h hQ; cases h; exact hQ
  | ret => intro Q st e st' h hQ; cases h; exact hQ
  | bad => intro Q st e st' h hQ; cases h

theorem evCall_ok (hm : P.follows .mixedOrders = true) {ov : Callee} (ho : CalleeOk P ov) (fz : List Nat) {tab : List (Nat × FI)} (ht : TabOk P tab) (F : Nat) : ∀ D, CalleeOk P (evCall ov fz tab F D) := by
  intro D
  induction D with
  | zero => intro f args h n r h' n' he; cases he
  | succ D ih =>
    intro f args h n r h' n' he
    simp only [evCall] at he
    split at he
    · rename_i y hy; cases he; exact ho _ _ _ _ _ _ _ hy
    split at he
    · cases he
    · rename_i x hx
      obtain ⟨fn, c, h1, h2, h3, h4, h5, h6⟩ := find_ok ht hx
      have h6' : cCode P (slotF x.al h.length) c = some (x.ic.at h.length) := congrFun h6 h.length
      have w : ∀ (e : IExit) (st : St), (e = .normal ∨ e = .ret) → evCode (evCall ov fz tab F D) h.length F x.ic ⟨args ++ List.replicate (x.nt - args.length) (.v undef), h ++ List.replicate (x.al.length + 1) none, n⟩ = some (e, st) → fin h.length n x.ts (frzFrom (fz.contains f) h.length st) = (r, h', n') → GCall P f args h n r h' n' := by
        intro e st hei hev hfin
        simp only [fin, Prod.mk.injEq] at hfin
        obtain ⟨hr, hh, hn⟩ := hfin
        have wf := Weak.frzFrom (fz.contains f) h.length st
        generalize frzFrom (fz.contains f) h.length st = sf at hr hh hn wf
        refine gcall_of hm h1 h2 h3 h4 h6' (x.al.length + 1) ?_
        rw [h5]
        refine evCode_ok ih x.ic _ _ e st hev ⟨hei, ?_⟩
        unfold trim at hh
        split at hh
        · exact ⟨sf, wf, hr, hh, hn⟩
        · exact ⟨_, wf.trans (Weak.take sf h.length), hr, hh, hn⟩
      split at he
      · rename_i st hev; exact w _ st (.inl rfl) hev (by simpa using he)
      · rename_i st hev; exact w _ st (.inr rfl) hev (by simpa using he)
      · cases he

/-- A function with these arguments, carried out. -/
def runF (ov : Callee) (fz : List Nat) (tab : List (Nat × FI)) (F D f : Nat) (args : List PV) : Option PV := if closedL args then (match evCall ov fz tab F D f args [none] 0 with | some (r, h, n) => shut r h n | none => none) else none

theorem vpure_run (hm : P.follows .mixedOrders = true) {ov : Callee} (ho : CalleeOk P ov) (fz : List Nat) {tab : List (Nat × FI)} (ht : TabOk P tab) (F D : Nat) {f : Nat} {args : List PV} {r : PV} (h : runF ov fz tab F D f args = some r) : VPure P f args r := by
  unfold runF at h
  split at h
  · rename_i ha
    split at h
    · rename_i r0 h0 n0 hc
      exact vpure_of_g (evCall_ok hm ho fz ht F D _ _ _ _ _ _ _ hc) ha h
    · cases h
  · cases h
end Go.Proofs.Ytemdbhdjchkllaa.VL
