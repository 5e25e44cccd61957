/- The same, told so that it can be gone through step by step: what follows a call, a test, a loop is not looked into ahead of its time. -/
import Derived.Test.YtemdbhdjchkllaaVs
namespace Go.Proofs.Ytemdbhdjchkllaa.VL
open Go
set_option linter.unusedVariables false
set_option linter.unusedSimpArgs false

/-- A test. -/
def ifK (b : Bool) (A B : St → Prop) (st : St) : Prop := match b with | true => A st | false => B st
theorem ifK_true (A B : St → Prop) (st : St) : ifK true A B st = A st := rfl
theorem ifK_false (A B : St → Prop) (st : St) : ifK false A B st = B st := rfl
theorem ifK_of {b : Bool} {A B : St → Prop} {st : St} (h1 : b = true → A st) (h2 : b = false → B st) : ifK b A B st := by
  cases b
  · exact h2 rfl
  · exact h1 rfl

/-- A value comes back. -/
def retK (K : St → Prop) (dst : Option Nat) (t : List PV) (p : PV) (h : List Slot) (n : Nat) : Prop := K (St.put ⟨t, h, n⟩ dst p)

def movK (K : St → Prop) (dst : Option Nat) (x : Opd) (st : St) : Prop := K (st.put dst (st.ev x))

def ops1 (P : Program) (d : Bool) (o : IOper) (K : St → Prop) (st : St) : Prop :=
  match o.op with
  | .call s f args => callK P d st s f (args.map st.ev) (retK K o.dst st.t)
  | .callv s x args => match st.ev x with
    | .clo f fs cs => callK P d st s f (fs ++ args.map st.ev ++ cs) (retK K o.dst st.t)
    | _ => False
  | .pick c a b => match st.ev c with | .v (.bool t) => ifK t (movK K o.dst a) (movK K o.dst b) st | _ => False
  | op => opK st.ev st.h st.n (retK K o.dst st.t) op

def skip1 (o : IOper) (K : St → Prop) (st : St) : Prop := K (st.put o.dst (.v undef))

def opsE (P : Program) (d : Bool) (Q : St → Prop) : List IOper → St → Prop
  | [], st => Q st
  | o :: r, st => match o.guard with
    | none => ops1 P d o (opsE P d Q r) st
    | some (g, want) => match st.t[g]? with
      | some (.v (.bool b)) => if want then ifK b (ops1 P d o (opsE P d Q r)) (skip1 o (opsE P d Q r)) st else ifK b (skip1 o (opsE P d Q r)) (ops1 P d o (opsE P d Q r)) st
      | some (.v _) => skip1 o (opsE P d Q r) st
      | _ => False

theorem opK_mono {ρ : Opd → PV} {h : List Slot} {n : Nat} {K K' : PV → List Slot → Nat → Prop} (hK : ∀ p h n, K p h n → K' p h n) : ∀ {op : IOp}, opK ρ h n K op → opK ρ h n K' op := by
  intro op hop
  have raw : op.isCall = false → ∀ K : PV → List Slot → Nat → Prop, rawK ⟨default, #[]⟩ ρ h n K op = opK ρ h n K op := by
    intro hc K
    cases op <;> first | rfl | cases hc
  by_cases hcall : op.isCall = true
  · cases op <;> first | cases hcall; done | exact hop
  replace hcall : op.isCall = false := by simpa using hcall
  by_cases hc : op.cls ≤ 2
  · rw [← raw hcall K] at hop
    obtain ⟨p, h', n', k1, k2, _⟩ := rawK_det hc hop
    rw [← raw hcall K']
    exact k2 K' (hK _ _ _ k1)
  · cases op with
    | nilq neg x =>
      simp only [opK] at hop ⊢
      split at hop
      · exact ⟨fun h => hK _ _ _ (hop.1 h), hK _ _ _ hop.2⟩
      · exact ⟨fun h => hK _ _ _ (hop.1 h), hK _ _ _ hop.2⟩
      · exact hop.elim
    | cap x =>
      simp only [opK] at hop ⊢
      split at hop <;> first
        | exact hop.elim
        | exact hK _ _ _ hop
        | exact fun c hc => hK _ _ _ (hop c hc)
    | bad => exact hop.elim
    | _ => simp [IOp.cls] at hc

theorem callK_mono {P : Program} {d : Bool} {st : St} {s f : Nat} {args : List PV} {K K' : PV → List Slot → Nat → Prop} (hK : ∀ p h n, K p h n → K' p h n) (h : callK P d st s f args K) : callK P d st s f args K' := by
  rcases h with ⟨r, h1, h2⟩ | ⟨h1, ms, ks, R, h2, h3, h4, h5, h6, h7, h8⟩ | ⟨h1, r, h', n', h2, h3⟩
  · exact .inl ⟨r, h1, hK _ _ _ h2⟩
  · exact .inr (.inl ⟨h1, ms, ks, R, h2, h3, h4, h5, h6, h7, fun r L' N g1 g2 => hK _ _ _ (h8 r L' N g1 g2)⟩)
  · exact .inr (.inr ⟨h1, r, h', n', h2, hK _ _ _ h3⟩)

theorem opsE_sound {P : Program} {d : Bool} {Q : St → Prop} : ∀ (l : List IOper) (st : St), opsE P d Q l st → opsK P d Q l st
  | [], st, h => h
  | o :: r, st, h => by
    have yes : ∀ st, ops1 P d o (opsE P d Q r) st → execK P d o st (opsK P d Q r) := by
      intro st h
      have hK : ∀ (p : PV) (h : List Slot) (n : Nat), retK (opsE P d Q r) o.dst st.t p h n → opsK P d Q r (St.put ⟨st.t, h, n⟩ o.dst p) := fun p h n hr => opsE_sound r _ hr
      unfold ops1 at h
      unfold execK
      split at h
      · rename_i s f args hop; simp only [hop]; exact callK_mono hK h
      · rename_i s x args hop
        simp only [hop]
        split at h
        · rename_i hev; simp only [hev]; exact callK_mono hK h
        · exact h.elim
      · rename_i c x y hop
        simp only [hop, opK]
        split at h
        · rename_i t hev
          simp only [hev]
          cases t
          · exact ⟨by simp, fun _ => opsE_sound r _ h⟩
          · exact ⟨fun _ => opsE_sound r _ h, by simp⟩
        · exact h.elim
      · rename_i h1 h2 h3
        split
        · rename_i hop; exact absurd hop (h1 _ _ _)
        · rename_i hop; exact absurd hop (h2 _ _ _)
        · exact opK_mono hK h
    have no : ∀ st, skip1 o (opsE P d Q r) st → opsK P d Q r (st.put o.dst (.v undef)) := fun st h => opsE_sound r _ h
    simp only [opsE] at h
    rw [opsK]
    split at h
    · rename_i hg; simp only [hg]; exact yes st h
    · rename_i g want hg
      simp only [hg]
      split at h
      · rename_i b hb
        simp only [hb]
        cases want <;> cases b <;> simp [ifK] at h ⊢ <;> first | exact yes st h | exact no st h
      · rename_i u hne hb
        simp only [hb]
        exact no st h
      · exact h.elim

def thenE (K : St → Prop) (Q : IExit → St → Prop) (e : IExit) (st : St) : Prop := match e with | .normal => K st | e => Q e st
def blkE (id : Nat) (Q : IExit → St → Prop) (e : IExit) (st : St) : Prop := match e with | .exit i => if i = id then Q .normal st else Q (.exit i) st | e => Q e st

/-- A loop: an invariant, and how many rounds are left at the most. -/
def loopK (W : (IExit → St → Prop) → St → Prop) (Q : IExit → St → Prop) (st : St) : Prop :=
  ∃ (I : Nat → St → Prop) (n : Nat), (∃ st0, Weak st st0 ∧ I n st0) ∧ ∀ n st, I n st → W (thenE (fun st' => ∃ m, m < n ∧ ∃ st0, Weak st' st0 ∧ I m st0) Q) st

def icE (P : Program) : ICode → (IExit → St → Prop) → St → Prop
  | .skip, Q, st => Q .normal st
  | .reg d ops, Q, st => opsE P d (Q .normal) ops st
  | .seq a b, Q, st => icE P a (thenE (icE P b Q) Q) st
  | .cond c a b, Q, st => match st.ev c with | .v (.bool t) => ifK t (icE P a Q) (icE P b Q) st | _ => False
  | .blk id b, Q, st => icE P b (blkE id Q) st
  | .loop b, Q, st => loopK (icE P b) Q st
  | .exit id, Q, st => Q (.exit id) st
  | .ret, Q, st => Q .ret st
  | .bad, Q, st => False

theorem icWp_mono {P : Program} : ∀ {ic : ICode} {Q Q' : IExit → St → Prop} {st : St}, (∀ e st, Q e st → Q' e st) → icWp P ic Q st → icWp P ic Q' st := by
  intro ic
  induction ic with
  | skip => intro Q Q' st hQ h; exact hQ _ _ h
  | reg d ops =>
    intro Q Q' st hQ h
    have : ∀ (l : List IOper) (st : St), opsK P d (Q .normal) l st → opsK P d (Q' .normal) l st := by
      intro l
      induction l with
      | nil => intro st h; exact hQ _ _ h
      | cons o r ih =>
        intro st h
        rw [opsK] at h ⊢
        have ex : execK P d o st (opsK P d (Q .normal) r) → execK P d o st (opsK P d (Q' .normal) r) := by
          intro h
          unfold execK at h ⊢
          split
          · rename_i hop; simp only [hop] at h; exact callK_mono (fun p h n => ih _) h
          · rename_i hop
            rename_i x _
            simp only [hop] at h
            cases hev : st.ev x <;> simp only [hev] at h ⊢ <;> first | exact h.elim | exact callK_mono (fun p h n => ih _) h
          · rename_i h1 h2
            split at h
            · rename_i hop; exact absurd hop (h1 _ _ _)
            · rename_i hop; exact absurd hop (h2 _ _ _)
            · exact opK_mono (fun p h n => ih _) h
        split
        · rename_i hg; simp only [hg] at h; exact ex h
        · rename_i g want hg
          simp only [hg] at h
          split
          · rename_i b hb; simp only [hb] at h; exact ⟨fun hh => ex (h.1 hh), fun hh => ih _ (h.2 hh)⟩
          · rename_i u hne hb
            simp only [hb] at h
            exact ih _ h
          · rename_i h1 h2
            split at h
            · rename_i b hb; exact absurd hb (h1 _)
            · rename_i u _ hb; exact absurd hb (h2 _)
            · exact h
    exact this ops st h
  | seq a b iha ihb =>
    intro Q Q' st hQ h
    refine iha (fun e st h => ?_) h
    cases e with
    | normal => exact ihb hQ h
    | exit id => exact hQ _ _ h
    | ret => exact hQ _ _ h
  | cond c a b iha ihb =>
    intro Q Q' st hQ h
    simp only [icWp] at h ⊢
    split at h
    · exact ⟨fun hh => iha hQ (h.1 hh), fun hh => ihb hQ (h.2 hh)⟩
    · exact h.elim
  | blk id b ih =>
    intro Q Q' st hQ h
    refine ih (fun e st h => ?_) h
    cases e with
    | normal => exact hQ _ _ h
    | exit i =>
      simp only [blkQ] at h ⊢
      split
      · rename_i hi; rw [if_pos hi] at h; exact hQ _ _ h
      · rename_i hi; rw [if_neg hi] at h; exact hQ _ _ h
    | ret => exact hQ _ _ h
  | loop b ih =>
    intro Q Q' st hQ h
    obtain ⟨I, n, h0, hr⟩ := h
    refine ⟨I, n, h0, fun n st hI => ih (fun e st h => ?_) (hr n st hI)⟩
    cases e with
    | normal => exact h
    | exit id => exact hQ _ _ h
    | ret => exact hQ _ _ h
  | exit id => intro Q Q' st hQ h; exact hQ _ _ h
  | ret => intro Q Q' st hQ h; exact hQ _ _ h
  | bad => intro Q Q' st hQ h; exact h.elim

theorem icE_sound {P : Program} : ∀ {ic : ICode} {Q : IExit → St → Prop} {st : St}, icE P ic Q st → icWp P ic Q st := by
  intro ic
  induction ic with
  | skip => intro Q st h; exact h
  | reg d ops => intro Q st h; exact opsE_sound ops st h
  | seq a b iha ihb =>
    intro Q st h
    show icWp P a (thenQ (icWp P b Q) Q) st
    refine icWp_mono (Q := thenE (icE P b Q) Q) (fun e st h => ?_) (iha h)
    cases e with
    | normal => exact ihb h
    | exit id => exact h
    | ret => exact h
  | cond c a b iha ihb =>
    intro Q st h
    simp only [icE] at h
    simp only [icWp]
    split at h
    · rename_i t hev
      simp only [hev]
      cases t
      · exact ⟨by simp, fun _ => ihb h⟩
      · exact ⟨fun _ => iha h, by simp⟩
    · exact h.elim
  | blk id b ih =>
    intro Q st h
    show icWp P b (blkQ id Q) st
    refine icWp_mono (Q := blkE id Q) (fun e st h => ?_) (ih h)
    cases e <;> exact h
  | loop b ih =>
    intro Q st h
    obtain ⟨I, n, h0, hr⟩ := h
    refine ⟨I, n, h0, fun n st hI => icWp_mono (fun e st h => ?_) (ih (hr n st hI))⟩
    cases e <;> exact h
  | exit id => intro Q st h; exact h
  | ret => intro Q st h; exact h
  | bad => intro Q st h; exact h.elim

theorem callK_pure {P : Program} {d : Bool} {st : St} {s f : Nat} {args : List PV} {r : PV} {K : PV → List Slot → Nat → Prop} (h : VPure P f args r) (hK : K r st.h st.n) : callK P d st s f args K := .inl ⟨r, h, hK⟩

/-- The end of a function that answers alone. -/
def EndP (ts : List Nat) (r : PV) (e : IExit) (st : St) : Prop := (e = .normal ∨ e = .ret) ∧ ∃ st', Weak st st' ∧ resV st' ts = r

/-- A CONTRACT OF A FUNCTION THAT ANSWERS ALONE. -/
theorem vpure_of {P : Program} (hm : P.follows .mixedOrders = true) {f : Nat} {fn : Func} {c : Code} {ic : ICode} {ts : List Nat} {args : List PV} {r : PV} {al : List Nat} {nt : Nat}
    (hf : P.funcs[f]? = some fn) (hb : fn.body = some c) (hcl : callable P f = true) (hr : fn.results = (ts.map ResultVar.tmp).toArray) (hnt : fn.ntmps = nt) (hic : cCode P (slotF al 0) c = some ic) (h1 : closedL args = true) (h2 : closed r = true)
    (hK : icE P ic (EndP ts r) (startSt args nt [] (al.length + 1))) : VPure P f args r := by
  refine ⟨h1, h2, vcall_of hm hf hb hcl hr hic ?_⟩
  subst hnt
  refine icWp_mono ?_ (icE_sound hK)
  rintro e st ⟨he, st', hw, hres⟩
  exact ⟨he, st', hw, none, .inl rfl, by rw [hres, ren_closed _ r h2]⟩

end Go.Proofs.Ytemdbhdjchkllaa.VL
