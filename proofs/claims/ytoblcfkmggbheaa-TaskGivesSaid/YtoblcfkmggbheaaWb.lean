/- Open truth values, decided: by bounds of symbols, by what holds on the way, by linear reckoning. -/
import Derived.Test.YtoblcfkmggbheaaVy
namespace Go.Proofs.Ytoblcfkmggbheaa.VL
open Go
set_option linter.unusedVariables false
set_option linter.unusedSimpArgs false
set_option linter.unusedSectionVars false
variable [Val]

def ikLo (k : IntKind) : Int := match k with | .i8 => -128 | .i16 => -32768 | .i32 => -2147483648 | .i64 => -9223372036854775808 | _ => 0
def ikHi (k : IntKind) : Int := match k with | .i8 => 127 | .i16 => 32767 | .i32 => 2147483647 | .i64 => 9223372036854775807 | .u8 => 255 | .u16 => 65535 | .u32 => 4294967295 | .u64 => 18446744073709551615

theorem wrap_in {k : IntKind} {x : Int} (h0 : ikLo k ≤ x) (h1 : x ≤ ikHi k) : k.wrap x = x := by
  cases k <;> simp only [ikLo, ikHi] at h0 h1 <;> simp only [IntKind.wrap, IntKind.bits, IntKind.signed] <;> simp <;> (try split) <;> omega

/-! ### Linear forms -/
def intV : Value → Int
  | .int _ n => n
  | _ => 0
def SX.int (x : SX) : Int := intV x.eval

abbrev Bd := Option (Int × Int)
def Bd.has (b : Bd) (n : Int) : Prop := match b with | some (lo, hi) => lo ≤ n ∧ n ≤ hi | none => True
structure Tm where
  k : Int
  x : SX
  b : Bd
structure LE where
  c : Int
  ts : List Tm
def tmsVal : List Tm → Int
  | [] => 0
  | t :: r => t.k * t.x.int + tmsVal r
def LE.val (e : LE) : Int := e.c + tmsVal e.ts
def LE.ok (e : LE) : Prop := ∀ t ∈ e.ts, Bd.has t.b t.x.int

def addT (t : Tm) : List Tm → List Tm
  | [] => [t]
  | u :: r => if sameSX t.x u.x then (if u.k + t.k = 0 then r else ⟨u.k + t.k, u.x, u.b⟩ :: r) else u :: addT t r
def LE.add (a b : LE) : LE := ⟨a.c + b.c, b.ts.foldr addT a.ts⟩
def LE.scale (k : Int) (a : LE) : LE := if k = 0 then ⟨0, []⟩ else ⟨k * a.c, a.ts.map fun t => ⟨k * t.k, t.x, t.b⟩⟩
def LE.sub (a b : LE) : LE := a.add (b.scale (-1))
def LE.plus (a : LE) (n : Int) : LE := ⟨a.c + n, a.ts⟩

theorem addT_val (t : Tm) : ∀ l, tmsVal (addT t l) = t.k * t.x.int + tmsVal l
  | [] => by simp [addT, tmsVal]
  | u :: r => by
    simp only [addT]
    split
    · rename_i h
      have := sameSX_eq h
      split
      · rename_i hk
        simp only [tmsVal]
        rw [this, show t.k = -u.k by omega, Int.neg_mul]; omega
      · simp only [tmsVal]
        rw [this, Int.add_mul]; omega
    · simp only [tmsVal, addT_val t r]; omega
theorem addT_ok {t : Tm} (ht : Bd.has t.b t.x.int) : ∀ {l : List Tm}, (∀ u ∈ l, Bd.has u.b u.x.int) → ∀ u ∈ addT t l, Bd.has u.b u.x.int
  | [], h, u, hu => by simp [addT] at hu; subst hu; exact ht
  | v :: r, h, u, hu => by
    simp only [addT] at hu
    split at hu
    · split at hu
      · exact h u (by simp [hu])
      · simp only [List.mem_cons] at hu
        rcases hu with rfl | hu
        · exact h v (by simp)
        · exact h u (by simp [hu])
    · simp only [List.mem_cons] at hu
      rcases hu with rfl | hu
      · exact h u (by simp)
      · exact addT_ok ht (fun w hw => h w (by simp [hw])) u hu
theorem addL_val : ∀ (l m : List Tm), tmsVal (l.foldr addT m) = tmsVal l + tmsVal m
  | [], m => by simp [tmsVal]
  | t :: l, m => by simp only [List.foldr_cons, addT_val, addL_val l m, tmsVal]; omega
theorem addL_ok : ∀ {l m : List Tm}, (∀ u ∈ l, Bd.has u.b u.x.int) → (∀ u ∈ m, Bd.has u.b u.x.int) → ∀ u ∈ l.foldr addT m, Bd.has u.b u.x.int
  | [], m, _, hm => hm
  | t :: l, m, hl, hm => addT_ok (hl t (by simp)) (addL_ok (fun u hu => hl u (by simp [hu])) hm)
theorem LE.add_val (a b : LE) : (a.add b).val = a.val + b.val := by simp only [LE.val, LE.add, addL_val]; omega
theorem LE.add_ok {a b : LE} (ha : a.ok) (hb : b.ok) : (a.add b).ok := addL_ok hb ha
theorem scale_tms (k : Int) : ∀ l : List Tm, tmsVal (l.map fun t => ⟨k * t.k, t.x, t.b⟩) = k * tmsVal l
  | [] => by simp [tmsVal]
  | t :: l => by simp only [List.map_cons, tmsVal, scale_tms k l]; rw [Int.mul_add, Int.mul_assoc]
theorem LE.scale_val (k : Int) (a : LE) : (a.scale k).val = k * a.val := by
  unfold LE.scale
  split
  · rename_i h; simp [LE.val, tmsVal, h]
  · simp only [LE.val, scale_tms]; rw [Int.mul_add]
theorem LE.scale_ok {k : Int} {a : LE} (ha : a.ok) : (a.scale k).ok := by
  unfold LE.scale
  split
  · intro t ht; cases ht
  · intro t ht
    simp only [List.mem_map] at ht
    obtain ⟨u, hu, rfl⟩ := ht
    exact ha u hu
theorem LE.sub_val (a b : LE) : (a.sub b).val = a.val - b.val := by simp only [LE.sub, LE.add_val, LE.scale_val]; omega
theorem LE.sub_ok {a b : LE} (ha : a.ok) (hb : b.ok) : (a.sub b).ok := LE.add_ok ha (LE.scale_ok hb)
theorem LE.plus_val (a : LE) (n : Int) : (a.plus n).val = a.val + n := by simp only [LE.val, LE.plus]; omega

/-- The least, and the greatest, that it may be. -/
def bdT (t : Tm) : Bd := match t.b with
  | some (lo, hi) => if 0 ≤ t.k then some (t.k * lo, t.k * hi) else some (t.k * hi, t.k * lo)
  | none => none
def bdTs : List Tm → Bd
  | [] => some (0, 0)
  | t :: r => match bdT t, bdTs r with | some (a, b), some (c, d) => some (a + c, b + d) | _, _ => none
def LE.bd (e : LE) : Bd := match bdTs e.ts with | some (a, b) => some (e.c + a, e.c + b) | none => none
theorem bdT_has {t : Tm} (h : Bd.has t.b t.x.int) : Bd.has (bdT t) (t.k * t.x.int) := by
  obtain ⟨k, x, b⟩ := t
  cases b with
  | none => trivial
  | some p =>
    obtain ⟨lo, hi⟩ := p
    simp only [Bd.has] at h
    simp only [bdT]
    split
    · rename_i hk
      exact ⟨Int.mul_le_mul_of_nonneg_left h.1 hk, Int.mul_le_mul_of_nonneg_left h.2 hk⟩
    · rename_i hk
      exact ⟨Int.mul_le_mul_of_nonpos_left (by omega) h.2, Int.mul_le_mul_of_nonpos_left (by omega) h.1⟩
theorem bdTs_has : ∀ {l : List Tm}, (∀ t ∈ l, Bd.has t.b t.x.int) → Bd.has (bdTs l) (tmsVal l)
  | [], _ => ⟨Int.le_refl _, Int.le_refl _⟩
  | t :: r, h => by
    have h1 := bdT_has (h t (by simp))
    have h2 := bdTs_has (l := r) fun u hu => h u (by simp [hu])
    simp only [bdTs, tmsVal]
    split
    · rename_i a b c d e1 e2
      rw [e1] at h1; rw [e2] at h2
      simp only [Bd.has] at h1 h2 ⊢
      omega
    · trivial
theorem LE.bd_has {e : LE} (h : e.ok) : Bd.has e.bd e.val := by
  have := bdTs_has h
  unfold LE.bd LE.val
  split
  · rename_i a b hb
    rw [hb] at this
    simp only [Bd.has] at this ⊢
    omega
  · trivial

/-! ### What is known -/
structure Facts where
  rng : List (Nat × Int × Int)
  le : List LE
  at_ : List (SX × Bool)
structure Facts.holds (F : Facts) : Prop where
  rng : ∀ r ∈ F.rng, r.2.1 ≤ Val.i r.1 ∧ Val.i r.1 ≤ r.2.2
  le : ∀ e ∈ F.le, e.ok ∧ e.val ≤ 0
  at_ : ∀ x ∈ F.at_, x.1.eval = .bool x.2
def rngOf (n : Nat) : List (Nat × Int × Int) → Bd
  | [] => none
  | r :: l => if r.1 = n then some r.2 else rngOf n l
theorem rngOf_has {F : Facts} (h : F.holds) (n : Nat) : Bd.has (rngOf n F.rng) (Val.i n) := by
  have : ∀ l : List (Nat × Int × Int), (∀ r ∈ l, r.2.1 ≤ Val.i r.1 ∧ Val.i r.1 ≤ r.2.2) → Bd.has (rngOf n l) (Val.i n) := by
    intro l
    induction l with
    | nil => intro _; trivial
    | cons r l ih =>
      intro h
      simp only [rngOf]
      split
      · rename_i hr; subst hr; exact h r (by simp)
      · exact ih fun r hr => h r (by simp [hr])
  exact this _ h.rng

def atomOf (x : SX) (b : Bd) : LE := ⟨0, [⟨1, x, b⟩]⟩
def inK (k : IntKind) (e : LE) : Bool := match e.bd with | some (lo, hi) => decide (ikLo k ≤ lo) && decide (hi ≤ ikHi k) | none => false
def remBd (e : LE) (m : Int) : Bd := match e.bd with | some (lo, hi) => if 0 ≤ lo ∧ 0 < m then some (0, if hi ≤ m - 1 then hi else m - 1) else none | none => none
def remBdS (e : LE) : Bd := match e.bd with | some (lo, hi) => if 0 ≤ lo then some (0, hi) else none | none => none
def quoBd (e : LE) (m : Int) : Bd := match e.bd with | some (lo, hi) => if 0 ≤ lo ∧ 0 < m then some (lo / m, hi / m) else none | none => none
def constOf (e : LE) : Option Int := match e.ts with | [] => some e.c | _ => none

def kindOf (x : SX) : Option IntKind := match x.ty with | some (.i k) => some k | _ => none
/-- A whole number, as a linear form. -/
def lin (F : Facts) : SX → LE
  | .i k n => atomOf (.i k n) (rngOf n F.rng)
  | .c (.int k v) => ⟨v, []⟩
  | .bin .add x y => match kindOf x with
    | some k => if inK k ((lin F x).add (lin F y)) then (lin F x).add (lin F y) else atomOf (.bin .add x y) none
    | none => atomOf (.bin .add x y) none
  | .bin .sub x y => match kindOf x with
    | some k => if inK k ((lin F x).sub (lin F y)) then (lin F x).sub (lin F y) else atomOf (.bin .sub x y) none
    | none => atomOf (.bin .sub x y) none
  | .bin .mul x y => match kindOf x, constOf (lin F x), constOf (lin F y) with
    | some k, some m, _ => if inK k ((lin F y).scale m) then (lin F y).scale m else atomOf (.bin .mul x y) none
    | some k, _, some m => if inK k ((lin F x).scale m) then (lin F x).scale m else atomOf (.bin .mul x y) none
    | _, _, _ => atomOf (.bin .mul x y) none
  | .bin .rem x (.c (.int k m)) => atomOf (.bin .rem x (.c (.int k m))) (remBd (lin F x) m)
  | .bin .rem x (.i k n) => atomOf (.bin .rem x (.i k n)) (remBdS (lin F x))
  | .bin .quo x (.c (.int k m)) => match kindOf x with
    | some k' => (match quoBd (lin F x) m with
      | some (lo, hi) => if ikLo k' ≤ lo ∧ hi ≤ ikHi k' then atomOf (.bin .quo x (.c (.int k m))) (some (lo, hi)) else atomOf (.bin .quo x (.c (.int k m))) none
      | none => atomOf (.bin .quo x (.c (.int k m))) none)
    | none => atomOf (.bin .quo x (.c (.int k m))) none
  | .conv k x => if inK k (lin F x) then lin F x else atomOf (.conv k x) none
  | x => atomOf x none

theorem atom_spec (x : SX) {b : Bd} (hb : Bd.has b x.int) : (atomOf x b).ok ∧ (atomOf x b).val = x.int := by
  refine ⟨fun t ht => ?_, by simp [atomOf, LE.val, tmsVal]⟩
  simp [atomOf] at ht
  subst ht; exact hb
theorem inK_spec {k : IntKind} {e : LE} (h : inK k e = true) (ho : e.ok) : k.wrap e.val = e.val := by
  unfold inK at h
  have := LE.bd_has ho
  split at h
  · rename_i lo hi hb
    rw [hb] at this
    simp only [Bool.and_eq_true, decide_eq_true_eq] at h
    simp only [Bd.has] at this
    exact wrap_in (by omega) (by omega)
  · cases h
theorem constOf_spec {e : LE} {m : Int} (h : constOf e = some m) : e.val = m := by
  unfold constOf at h
  split at h
  · rename_i ht; cases h; simp [LE.val, ht, tmsVal]
  · cases h

theorem bin_int {op : BinOp} {x y : SX} {k : IntKind} {t : Ty} (h : (SX.bin op x y).ty = some t) (hx : x.ty = some (.i k)) (hs : op ≠ .shl ∧ op ≠ .shr) : y.ty = some (.i k) := by
  simp only [SX.ty, hx] at h
  cases hy : y.ty with
  | none => rw [hy] at h; cases h
  | some ty =>
    rw [hy] at h
    cases ty <;> simp only [tyBin] at h <;> first | (cases h; done) | skip
    cases op <;> simp only at h <;> first
      | (exact absurd rfl hs.1)
      | (exact absurd rfl hs.2)
      | (split at h
         · rename_i hk; first | rw [hk] | rw [hk.1]
         · cases h)
theorem kindOf_spec {x : SX} {k : IntKind} (h : kindOf x = some k) : x.ty = some (.i k) := by
  unfold kindOf at h
  split at h
  · rename_i h'; cases h; exact h'
  · cases h

theorem lin_spec {F : Facts} (hF : F.holds) : ∀ {x : SX} {k : IntKind}, x.ty = some (.i k) → (lin F x).ok ∧ (lin F x).val = x.int := by
  intro x
  induction x with
  | i k n => intro k' h; exact atom_spec _ (rngOf_has hF n)
  | c v =>
    intro k h
    cases v <;> simp only [SX.ty] at h <;> first | (cases h; done) | skip
    exact ⟨fun t ht => (by cases ht), by simp [lin, LE.val, tmsVal, SX.int, SX.eval, intV]⟩
  | bin op x y ihx ihy =>
    intro k h
    have triv : ∀ z : SX, (atomOf z none).ok ∧ (atomOf z none).val = z.int := fun z => atom_spec z trivial
    have parts : ∀ {k' : IntKind}, x.ty = some (.i k') → (op ≠ .shl ∧ op ≠ .shr) → y.ty = some (.i k') := fun hx hs => bin_int h hx hs
    cases op with
    | add =>
      simp only [lin]
      split
      · rename_i k' hk
        have hx := kindOf_spec hk
        have hy := parts hx ⟨by simp, by simp⟩
        obtain ⟨x1, x2⟩ := ihx hx
        obtain ⟨y1, y2⟩ := ihy hy
        split
        · rename_i hin
          refine ⟨LE.add_ok x1 y1, ?_⟩
          obtain ⟨m, hm⟩ := SX.has hx
          obtain ⟨n, hn⟩ := SX.has hy
          have e1 : x.int = m := by simp [SX.int, hm, intV]
          have e2 : y.int = n := by simp [SX.int, hn, intV]
          have e3 : (SX.bin .add x y).int = k'.wrap (m + n) := by simp [SX.int, SX.eval, hm, hn, binW, arith, intV]
          have := inK_spec hin (LE.add_ok x1 y1)
          rw [LE.add_val, x2, y2, e1, e2] at this
          rw [LE.add_val, x2, y2, e1, e2, e3, this]
        · exact triv _
      · exact triv _
    | sub =>
      simp only [lin]
      split
      · rename_i k' hk
        have hx := kindOf_spec hk
        have hy := parts hx ⟨by simp, by simp⟩
        obtain ⟨x1, x2⟩ := ihx hx
        obtain ⟨y1, y2⟩ := ihy hy
        split
        · rename_i hin
          refine ⟨LE.sub_ok x1 y1, ?_⟩
          obtain ⟨m, hm⟩ := SX.has hx
          obtain ⟨n, hn⟩ := SX.has hy
          have e1 : x.int = m := by simp [SX.int, hm, intV]
          have e2 : y.int = n := by simp [SX.int, hn, intV]
          have e3 : (SX.bin .sub x y).int = k'.wrap (m - n) := by simp [SX.int, SX.eval, hm, hn, binW, arith, intV]
          have := inK_spec hin (LE.sub_ok x1 y1)
          rw [LE.sub_val, x2, y2, e1, e2] at this
          rw [LE.sub_val, x2, y2, e1, e2, e3, this]
        · exact triv _
      · exact triv _
    | mul =>
      simp only [lin]
      split
      · rename_i _ _ k' m hk hc
        have hx := kindOf_spec hk
        have hy := parts hx ⟨by simp, by simp⟩
        obtain ⟨x1, x2⟩ := ihx hx
        obtain ⟨y1, y2⟩ := ihy hy
        split
        · rename_i hin
          refine ⟨LE.scale_ok y1, ?_⟩
          obtain ⟨a, ha⟩ := SX.has hx
          obtain ⟨b, hb⟩ := SX.has hy
          have e1 : x.int = a := by simp [SX.int, ha, intV]
          have e2 : y.int = b := by simp [SX.int, hb, intV]
          have e3 : (SX.bin .mul x y).int = k'.wrap (a * b) := by simp [SX.int, SX.eval, ha, hb, binW, arith, intV]
          have e4 := constOf_spec hc
          have := inK_spec hin (LE.scale_ok y1)
          rw [LE.scale_val, y2, e2, ← e4, x2, e1] at this
          rw [LE.scale_val, y2, e2, ← e4, x2, e1, e3, this]
        · exact triv _
      · rename_i _ _ _ k' m hk hc _
        have hx := kindOf_spec hk
        have hy := parts hx ⟨by simp, by simp⟩
        obtain ⟨x1, x2⟩ := ihx hx
        obtain ⟨y1, y2⟩ := ihy hy
        split
        · rename_i hin
          refine ⟨LE.scale_ok x1, ?_⟩
          obtain ⟨a, ha⟩ := SX.has hx
          obtain ⟨b, hb⟩ := SX.has hy
          have e1 : x.int = a := by simp [SX.int, ha, intV]
          have e2 : y.int = b := by simp [SX.int, hb, intV]
          have e3 : (SX.bin .mul x y).int = k'.wrap (a * b) := by simp [SX.int, SX.eval, ha, hb, binW, arith, intV]
          have e4 := constOf_spec hc
          have := inK_spec hin (LE.scale_ok x1)
          rw [LE.scale_val, x2, e1, ← e4, y2, e2] at this
          rw [LE.scale_val, x2, e1, ← e4, y2, e2, e3, Int.mul_comm a b, this]
        · exact triv _
      · exact triv _
    | rem =>
      cases y with
      | c v =>
        cases v with
        | int k2 m =>
          simp only [lin]
          refine atom_spec _ ?_
          unfold remBd
          have hxk : ∃ k', x.ty = some (.i k') := by
            simp only [SX.ty] at h
            cases hx : x.ty with
            | none => rw [hx] at h; cases h
            | some tx => cases tx <;> first | exact ⟨_, rfl⟩ | (rw [hx] at h; simp [tyBin] at h)
          obtain ⟨k', hx⟩ := hxk
          have hk2 : k2 = k' := by
            have := parts hx ⟨by simp, by simp⟩
            simp only [SX.ty] at this; cases this; rfl
          subst hk2
          obtain ⟨x1, x2⟩ := ihx hx
          have hb := LE.bd_has x1
          split
          · rename_i lo hi e
            rw [e] at hb
            simp only [Bd.has] at hb
            split
            · rename_i hh
              obtain ⟨a, ha⟩ := SX.has hx
              have e1 : x.int = a := by simp [SX.int, ha, intV]
              have hm : ¬ m = 0 := by omega
              have e3 : (SX.bin .rem x (.c (.int k2 m))).int = a.tmod m := by
                simp only [SX.int, SX.eval, ha, binW, arith, if_true, if_neg hm, Option.getD_some, intV]
              rw [x2, e1] at hb
              have ha0 : 0 ≤ a := by omega
              have h1 := Int.tmod_eq_emod_of_nonneg (b := m) ha0
              have h2 := Int.emod_nonneg a (show m ≠ 0 by omega)
              have h3 := Int.emod_lt_of_pos a (show (0 : Int) < m by omega)
              have h4 : a % m ≤ a := by
                have q1 := Int.mul_ediv_add_emod a m
                have q2 : 0 ≤ m * (a / m) := Int.mul_nonneg (by omega) (Int.ediv_nonneg ha0 (by omega))
                omega
              simp only [Bd.has, e3, h1]
              split <;> omega
            · trivial
          · trivial
        | _ => exact triv _
      | i k2 nn =>
        simp only [lin]
        refine atom_spec _ ?_
        unfold remBdS
        have hxk : ∃ k', x.ty = some (.i k') := by
          simp only [SX.ty] at h
          cases hx : x.ty with
          | none => rw [hx] at h; cases h
          | some tx => cases tx <;> first | exact ⟨_, rfl⟩ | (rw [hx] at h; simp [tyBin] at h)
        obtain ⟨k', hx⟩ := hxk
        have hk2 : k2 = k' := by
          have := parts hx ⟨by simp, by simp⟩
          simp only [SX.ty] at this; cases this; rfl
        subst hk2
        obtain ⟨x1, x2⟩ := ihx hx
        have hb := LE.bd_has x1
        have hnz : Val.i nn ≠ 0 := by
          simp only [SX.ty, hx, tyBin] at h
          split at h
          · rename_i hh
            have := hh.2
            simp only [isNz, Nat.ble_eq] at this
            exact Val.nz nn this
          · cases h
        split
        · rename_i lo hi e
          rw [e] at hb
          simp only [Bd.has] at hb
          split
          · rename_i hh
            obtain ⟨a, ha⟩ := SX.has hx
            have e1 : x.int = a := by simp [SX.int, ha, intV]
            rw [x2, e1] at hb
            have ha0 : 0 ≤ a := by omega
            have e3 : (SX.bin .rem x (.i k2 nn)).int = a.tmod (Val.i nn) := by
              simp only [SX.int, SX.eval, ha, binW, arith, if_true, if_neg hnz, Option.getD_some, intV]
            have h1 := Int.tmod_nonneg (Val.i nn) ha0
            have h2 : a.tmod (Val.i nn) ≤ a := by
              have q := Int.tmod_add_mul_tdiv a (Val.i nn)
              have : 0 ≤ Val.i nn * a.tdiv (Val.i nn) := by
                have h3 := Int.tmod_eq_emod_of_nonneg (b := Val.i nn) ha0
                have h4 := Int.emod_emod_of_dvd a (Int.dvd_refl (Val.i nn))
                have h5 : a % (Val.i nn) ≤ a := by
                  rcases Int.lt_or_gt_of_ne hnz with hneg | hpos
                  · rw [← Int.emod_neg]
                    have q1 := Int.mul_ediv_add_emod a (-(Val.i nn))
                    have q2 : 0 ≤ (-(Val.i nn)) * (a / (-(Val.i nn))) := Int.mul_nonneg (by omega) (Int.ediv_nonneg ha0 (by omega))
                    omega
                  · have q1 := Int.mul_ediv_add_emod a (Val.i nn)
                    have q2 : 0 ≤ (Val.i nn) * (a / (Val.i nn)) := Int.mul_nonneg (by omega) (Int.ediv_nonneg ha0 (by omega))
                    omega
                omega
              omega
            simp only [Bd.has, e3]
            omega
          · trivial
        · trivial
      | _ => exact triv _
    | quo =>
      cases y with
      | c v =>
        cases v with
        | int k2 m =>
          simp only [lin]
          split
          · rename_i k' hk
            have hx := kindOf_spec hk
            have hk2 : k2 = k' := by
              have := parts hx ⟨by simp, by simp⟩
              simp only [SX.ty] at this; cases this; rfl
            subst hk2
            obtain ⟨x1, x2⟩ := ihx hx
            have hb := LE.bd_has x1
            split
            · rename_i lo' hi' hq
              split
              · rename_i hin
                refine atom_spec _ ?_
                unfold quoBd at hq
                split at hq
                · rename_i lo hi e
                  rw [e] at hb
                  simp only [Bd.has] at hb
                  split at hq
                  · rename_i hh
                    cases hq
                    obtain ⟨a, ha⟩ := SX.has hx
                    have e1 : x.int = a := by simp [SX.int, ha, intV]
                    rw [x2, e1] at hb
                    have hm : ¬ m = 0 := by omega
                    have h1 := Int.tdiv_eq_ediv_of_nonneg (b := m) (show 0 ≤ a by omega)
                    have h2 : lo / m ≤ a / m := Int.ediv_le_ediv hh.2 hb.1
                    have h3 : a / m ≤ hi / m := Int.ediv_le_ediv hh.2 hb.2
                    have e3 : (SX.bin .quo x (.c (.int k2 m))).int = k2.wrap (a.tdiv m) := by
                      simp only [SX.int, SX.eval, ha, binW, arith, if_true, if_neg hm, Option.getD_some, intV]
                    have w : k2.wrap (a / m) = a / m := wrap_in (by omega) (by omega)
                    simp only [Bd.has, e3, h1, w]
                    exact ⟨h2, h3⟩
                  · cases hq
                · cases hq
              · exact triv _
            · exact triv _
          · exact triv _
        | _ => exact triv _
      | _ => exact triv _
    | _ => exact triv _
  | conv k2 x ih =>
    intro k h
    simp only [lin]
    split
    · rename_i hin
      simp only [SX.ty] at h
      split at h
      · rename_i k' hx
        obtain ⟨x1, x2⟩ := ih hx
        refine ⟨x1, ?_⟩
        obtain ⟨a, ha⟩ := SX.has hx
        have e1 : x.int = a := by simp [SX.int, ha, intV]
        have := inK_spec hin x1
        rw [x2, e1] at this
        rw [x2, e1]
        simp only [SX.int, SX.eval, ha, intV, this]
      · cases h
    · exact atom_spec _ trivial
  | b n => intro k h; cases h
  | s n => intro k h; cases h
  | beq n x y _ _ => intro k h; exact atom_spec _ trivial
  | and x y _ _ => intro k h; exact atom_spec _ trivial
  | un op x _ => intro k h; exact atom_spec _ trivial
  | len x _ => intro k h; exact atom_spec _ trivial

/-- It is not above 0. -/
def prove (F : Facts) (e : LE) : Bool :=
  (match e.bd with | some (_, hi) => decide (hi ≤ 0) | none => false) || F.le.any fun f => match (e.sub f).bd with | some (_, hi) => decide (hi ≤ 0) | none => false
theorem prove_spec {F : Facts} (hF : F.holds) {e : LE} (he : e.ok) (h : prove F e = true) : e.val ≤ 0 := by
  unfold prove at h
  rw [Bool.or_eq_true] at h
  rcases h with h | h
  · have := LE.bd_has he
    split at h
    · rename_i lo hi hb
      rw [hb] at this
      simp only [decide_eq_true_eq] at h
      simp only [Bd.has] at this
      omega
    · cases h
  · rw [List.any_eq_true] at h
    obtain ⟨f, hf, h⟩ := h
    obtain ⟨f1, f2⟩ := hF.le f hf
    have := LE.bd_has (LE.sub_ok he f1)
    split at h
    · rename_i lo hi hb
      rw [hb, LE.sub_val] at this
      simp only [decide_eq_true_eq] at h
      simp only [Bd.has] at this
      omega
    · cases h

def seekAt (x : SX) : List (SX × Bool) → Option Bool
  | [] => none
  | y :: r => if sameSX x y.1 then some y.2 else seekAt x r
theorem seekAt_spec {F : Facts} (hF : F.holds) {x : SX} {b : Bool} (h : seekAt x F.at_ = some b) : x.eval = .bool b := by
  have : ∀ l : List (SX × Bool), (∀ y ∈ l, y.1.eval = .bool y.2) → seekAt x l = some b → x.eval = .bool b := by
    intro l
    induction l with
    | nil => intro _ h; cases h
    | cons y r ih =>
      intro hl h
      simp only [seekAt] at h
      split at h
      · rename_i hs; cases h; rw [sameSX_eq hs]; exact hl y (by simp)
      · exact ih (fun z hz => hl z (by simp [hz])) h
  exact this _ hF.at_ h

def decCmp (F : Facts) (op : BinOp) (d : LE) : Option Bool := match op with
  | .lss => if prove F (d.plus 1) then some true else if prove F (d.scale (-1)) then some false else none
  | .leq => if prove F d then some true else if prove F ((d.scale (-1)).plus 1) then some false else none
  | .gtr => if prove F ((d.scale (-1)).plus 1) then some true else if prove F d then some false else none
  | .geq => if prove F (d.scale (-1)) then some true else if prove F (d.plus 1) then some false else none
  | .eql => if prove F d && prove F (d.scale (-1)) then some true else if prove F (d.plus 1) || prove F ((d.scale (-1)).plus 1) then some false else none
  | .neq => if prove F d && prove F (d.scale (-1)) then some false else if prove F (d.plus 1) || prove F ((d.scale (-1)).plus 1) then some true else none
  | _ => none
def cmpB (op : BinOp) (a b : Int) : Option Bool := match op with
  | .lss => some (decide (a < b)) | .leq => some (decide (a ≤ b)) | .gtr => some (decide (a > b)) | .geq => some (decide (a ≥ b)) | .eql => some (a == b) | .neq => some (a != b) | _ => none
theorem plus_ok {e : LE} {n : Int} (h : e.ok) : (e.plus n).ok := h
theorem decCmp_spec {F : Facts} (hF : F.holds) {op : BinOp} {d : LE} (hd : d.ok) {a b : Int} (hv : d.val = a - b) {r : Bool} (h : decCmp F op d = some r) : cmpB op a b = some r := by
  have p0 : prove F d = true → a ≤ b := fun h => by have := prove_spec hF hd h; omega
  have p1 : prove F (d.plus 1) = true → a < b := fun h => by have := prove_spec hF (plus_ok hd) h; rw [LE.plus_val] at this; omega
  have p2 : prove F (d.scale (-1)) = true → b ≤ a := fun h => by have := prove_spec hF (LE.scale_ok hd) h; rw [LE.scale_val] at this; omega
  have p3 : prove F ((d.scale (-1)).plus 1) = true → b < a := fun h => by have := prove_spec hF (plus_ok (LE.scale_ok hd)) h; rw [LE.plus_val, LE.scale_val] at this; omega
  unfold decCmp at h
  cases op <;> simp only at h <;> first | (cases h; done) | skip
  all_goals
    (simp only [cmpB]
     split at h
     · rename_i h1
       cases h
       first
         | (have := p0 h1; simp; omega)
         | (have := p1 h1; simp; omega)
         | (have := p2 h1; simp; omega)
         | (have := p3 h1; simp; omega)
         | (simp only [Bool.and_eq_true] at h1; have q1 := p0 h1.1; have q2 := p2 h1.2; simp; omega)
     · split at h
       · rename_i h1
         cases h
         first
           | (have := p0 h1; simp; omega)
           | (have := p1 h1; simp; omega)
           | (have := p2 h1; simp; omega)
           | (have := p3 h1; simp; omega)
           | (simp only [Bool.or_eq_true] at h1
              rcases h1 with h1 | h1
              · have := p1 h1; simp; omega
              · have := p3 h1; simp; omega)
       · cases h)

/-- An open truth value, decided. -/
def dec (F : Facts) : SX → Option Bool
  | .c (.bool t) => some t
  | .un .not x => (dec F x).map (!·)
  | .and x y => match dec F x, dec F y with
    | some false, _ => some false
    | _, some false => some false
    | some true, some true => some true
    | _, _ => none
  | .beq neg x y => match dec F x, dec F y with
    | some a, some b => some (if neg then !(a == b) else a == b)
    | _, _ => seekAt (.beq neg x y) F.at_
  | .bin op x y => match x.ty, y.ty with
    | some (.i k), some (.i k') => if k = k' then (match decCmp F op ((lin F x).sub (lin F y)) with | some r => some r | none => seekAt (.bin op x y) F.at_) else none
    | _, _ => seekAt (.bin op x y) F.at_
  | x => seekAt x F.at_

theorem cmp_eval {op : BinOp} {x y : SX} {k : IntKind} (hx : x.ty = some (.i k)) (hy : y.ty = some (.i k)) {r : Bool} (h : cmpB op x.int y.int = some r) : (SX.bin op x y).eval = .bool r := by
  obtain ⟨m, hm⟩ := SX.has hx
  obtain ⟨n, hn⟩ := SX.has hy
  have e1 : x.int = m := by simp [SX.int, hm, intV]
  have e2 : y.int = n := by simp [SX.int, hn, intV]
  rw [e1, e2] at h
  cases op <;> simp only [cmpB] at h <;> first | (cases h; done) | (cases h; simp [SX.eval, hm, hn, binW, arith])

theorem dec_spec {F : Facts} (hF : F.holds) : ∀ {x : SX} {r : Bool}, x.ty = some .b → dec F x = some r → x.eval = .bool r := by
  intro x
  induction x with
  | c v =>
    intro r ht h
    cases v <;> simp only [dec] at h <;> first
      | (exact seekAt_spec hF h)
      | (cases h; rfl)
  | un op x ih =>
    intro r ht h
    cases op with
    | not =>
      simp only [dec, Option.map_eq_some_iff] at h
      obtain ⟨q, hq, rfl⟩ := h
      have hx : x.ty = some .b := by
        simp only [SX.ty] at ht
        cases hx : x.ty with
        | none => rw [hx] at ht; cases ht
        | some t => cases t <;> first | rfl | (rw [hx] at ht; simp [tyUn] at ht)
      simp [SX.eval, ih hx hq, unW]
    | _ => exact seekAt_spec hF h
  | and x y ihx ihy =>
    intro r ht h
    simp only [SX.ty] at ht
    split at ht
    · rename_i hh
      obtain ⟨a, ha⟩ := sx_bool hh.1
      obtain ⟨b, hb⟩ := sx_bool hh.2
      simp only [dec] at h
      split at h
      · rename_i h1
        cases h
        have := ihx hh.1 h1
        simp [SX.eval, this, hb]
      · rename_i h1 _
        cases h
        have := ihy hh.2 (by assumption)
        simp [SX.eval, this, ha]
      · rename_i h1 h2
        cases h
        simp [SX.eval, ihx hh.1 h1, ihy hh.2 h2]
      · cases h
    · cases ht
  | beq neg x y ihx ihy =>
    intro r ht h
    simp only [dec] at h
    split at h
    · rename_i a b ha hb
      cases h
      simp only [SX.ty] at ht
      split at ht
      · rename_i hh
        simp [SX.eval, ihx hh.1 ha, ihy hh.2 hb]
      · cases ht
    · exact seekAt_spec hF h
  | bin op x y _ _ =>
    intro r ht h
    simp only [dec] at h
    split at h
    · rename_i k k' hx hy
      split at h
      · rename_i hk
        subst hk
        split at h
        · rename_i r' hr
          cases h
          obtain ⟨x1, x2⟩ := lin_spec hF hx
          obtain ⟨y1, y2⟩ := lin_spec hF hy
          exact cmp_eval hx hy (decCmp_spec hF (LE.sub_ok x1 y1) (by rw [LE.sub_val, x2, y2]) hr)
        · exact seekAt_spec hF h
      · cases h
    · exact seekAt_spec hF h
  | _ => intro r ht h; exact seekAt_spec hF h

/-! ### What is known on the way -/
def cmpFacts (op : BinOp) (d : LE) (t : Bool) : List LE := match op, t with
  | .lss, true => [d.plus 1]
  | .lss, false => [d.scale (-1)]
  | .leq, true => [d]
  | .leq, false => [(d.scale (-1)).plus 1]
  | .gtr, true => [(d.scale (-1)).plus 1]
  | .gtr, false => [d]
  | .geq, true => [d.scale (-1)]
  | .geq, false => [d.plus 1]
  | .eql, true => [d, d.scale (-1)]
  | .neq, false => [d, d.scale (-1)]
  | _, _ => []
/-- A symbol's bounds, made closer. -/
def tighten (e : LE) : List (Nat × Int × Int) → List (Nat × Int × Int)
  | [] => []
  | r :: l => match e.ts with
    | [⟨k, .i _ n, _⟩] => if n = r.1 then (if k = 1 then (r.1, r.2.1, if -e.c < r.2.2 then -e.c else r.2.2) else if k = -1 then (r.1, (if r.2.1 < e.c then e.c else r.2.1), r.2.2) else r) :: l else r :: tighten e l
    | _ => r :: l
def factOf (F : Facts) (x : SX) (t : Bool) : List LE := match x with
  | .bin op a b => match a.ty, b.ty with
    | some (.i k), some (.i k') => if k = k' then cmpFacts op ((lin F a).sub (lin F b)) t else []
    | _, _ => []
  | _ => []
def Facts.put (F : Facts) (e : LE) : Facts := ⟨tighten e F.rng, e :: F.le, F.at_⟩
def Facts.add (F : Facts) : SX → Bool → Facts
  | .un .not x, t => Facts.add F x (!t)
  | .and x y, true => Facts.add (Facts.add F x true) y true
  | x, t => (factOf F x t).foldl Facts.put ⟨F.rng, F.le, (x, t) :: F.at_⟩

theorem tighten_ok {e : LE} (he : e.ok ∧ e.val ≤ 0) : ∀ {l : List (Nat × Int × Int)}, (∀ r ∈ l, r.2.1 ≤ Val.i r.1 ∧ Val.i r.1 ≤ r.2.2) → ∀ r ∈ tighten e l, r.2.1 ≤ Val.i r.1 ∧ Val.i r.1 ≤ r.2.2
  | [], h, r, hr => by cases hr
  | q :: l, h, r, hr => by
    simp only [tighten] at hr
    split at hr
    · rename_i k kk n b hts
      have hv : e.c + k * Val.i n ≤ 0 := by
        have := he.2
        simpa [LE.val, hts, tmsVal, SX.int, SX.eval, intV] using this
      split at hr
      · rename_i hn
        simp only [List.mem_cons] at hr
        rcases hr with hr | hr
        · have hq := h q (by simp)
          split at hr
          · rename_i hk
            subst hk hr hn
            simp only
            refine ⟨hq.1, ?_⟩
            split <;> omega
          · split at hr
            · rename_i hk
              subst hk hr hn
              simp only
              refine ⟨?_, hq.2⟩
              split <;> omega
            · rw [hr]; exact hq
        · exact h r (by simp [hr])
      · simp only [List.mem_cons] at hr
        rcases hr with rfl | hr
        · exact h r (by simp)
        · exact tighten_ok he (fun r hr => h r (by simp [hr])) r hr
    · exact h r hr

theorem put_ok {F : Facts} (hF : F.holds) {e : LE} (he : e.ok ∧ e.val ≤ 0) : (F.put e).holds :=
  ⟨tighten_ok he hF.rng, fun f hf => by
    simp only [Facts.put, List.mem_cons] at hf
    rcases hf with rfl | hf
    · exact he
    · exact hF.le f hf, hF.at_⟩

theorem factOf_ok {F : Facts} (hF : F.holds) {x : SX} {t : Bool} (hx : x.eval = .bool t) : ∀ e ∈ factOf F x t, e.ok ∧ e.val ≤ 0 := by
  intro e he
  unfold factOf at he
  split at he
  · rename_i op a b
    split at he
    · rename_i k k' ha hb
      split at he
      · rename_i hk
        subst hk
        obtain ⟨x1, x2⟩ := lin_spec hF ha
        obtain ⟨y1, y2⟩ := lin_spec hF hb
        obtain ⟨m, hm⟩ := SX.has ha
        obtain ⟨n, hn⟩ := SX.has hb
        have e1 : a.int = m := by simp [SX.int, hm, intV]
        have e2 : b.int = n := by simp [SX.int, hn, intV]
        have d1 : ((lin F a).sub (lin F b)).ok := LE.sub_ok x1 y1
        have d2 : ((lin F a).sub (lin F b)).val = m - n := by rw [LE.sub_val, x2, y2, e1, e2]
        generalize (lin F a).sub (lin F b) = d at he d1 d2
        have hc : cmpFacts op d t = [] ∨ cmpB op m n = some t := by
          cases op <;> first
            | (left; cases t <;> rfl)
            | (right
               simp only [SX.eval, hm, hn, binW, arith, if_true, Option.getD_some, Value.bool.injEq] at hx
               simp only [cmpB, hx])
        rcases hc with hc | hc
        · rw [hc] at he; cases he
        · unfold cmpFacts at he
          cases op <;> cases t <;> simp only [List.mem_cons, List.not_mem_nil, or_false] at he <;> simp [cmpB] at hc <;> first
            | (subst he; first
                | exact ⟨plus_ok (LE.scale_ok d1), by rw [LE.plus_val, LE.scale_val, d2]; omega⟩
                | exact ⟨plus_ok d1, by rw [LE.plus_val, d2]; omega⟩
                | exact ⟨LE.scale_ok d1, by rw [LE.scale_val, d2]; omega⟩
                | exact ⟨d1, by rw [d2]; omega⟩)
            | (rcases he with rfl | rfl
               · exact ⟨d1, by rw [d2]; omega⟩
               · exact ⟨LE.scale_ok d1, by rw [LE.scale_val, d2]; omega⟩)
      · cases he
    · cases he
  · cases he

theorem puts_ok : ∀ {l : List LE} {F : Facts}, F.holds → (∀ e ∈ l, e.ok ∧ e.val ≤ 0) → (l.foldl Facts.put F).holds
  | [], F, hF, _ => hF
  | e :: l, F, hF, h => by
    show (l.foldl Facts.put (F.put e)).holds
    exact puts_ok (put_ok hF (h e (by simp))) fun f hf => h f (by simp [hf])

theorem add_ok : ∀ {x : SX} {F : Facts} {t : Bool}, F.holds → x.ty = some .b → x.eval = .bool t → (F.add x t).holds := by
  intro x
  have base : ∀ {x : SX} {F : Facts} {t : Bool}, F.holds → x.eval = .bool t → ((factOf F x t).foldl Facts.put ⟨F.rng, F.le, (x, t) :: F.at_⟩).holds := by
    intro x F t hF hx
    refine puts_ok ⟨hF.rng, hF.le, fun y hy => ?_⟩ (factOf_ok hF hx)
    simp only [List.mem_cons] at hy
    rcases hy with rfl | hy
    · exact hx
    · exact hF.at_ y hy
  induction x with
  | un op x ih =>
    intro F t hF ht hx
    cases op with
    | not =>
      have htx : x.ty = some .b := by
        simp only [SX.ty] at ht
        cases hx : x.ty with
        | none => rw [hx] at ht; cases ht
        | some t => cases t <;> first | rfl | (rw [hx] at ht; simp [tyUn] at ht)
      obtain ⟨q, hq⟩ := sx_bool htx
      simp only [SX.eval, hq, unW, Option.getD_some, Value.bool.injEq] at hx
      exact ih hF htx (by rw [hq, ← hx]; simp)
    | _ => exact base hF hx
  | and x y ihx ihy =>
    intro F t hF ht hx
    cases t with
    | false => exact base hF hx
    | true =>
      simp only [SX.ty] at ht
      split at ht
      · rename_i hh
        obtain ⟨a, ha⟩ := sx_bool hh.1
        obtain ⟨b, hb⟩ := sx_bool hh.2
        simp only [SX.eval, ha, hb, Value.bool.injEq, Bool.and_eq_true] at hx
        exact ihy (ihx hF hh.1 (by rw [ha, hx.1])) hh.2 (by rw [hb, hx.2])
      · cases ht
  | _ => intro F t hF ht hx; exact base hF hx

/-- EACH END THAT MAY BE IS A GOOD ONE. -/
def Tr.all {α : Type} (leaf : Facts → α → Bool) : Facts → Tr α → Bool
  | _, .no => false
  | F, .ok a => leaf F a
  | F, .br x t f => if x.ty = some .b then (match dec F x with
    | some true => t.all leaf F
    | some false => f.all leaf F
    | none => t.all leaf (F.add x true) && f.all leaf (F.add x false)) else false

theorem all_spec {α : Type} {leaf : Facts → α → Bool} : ∀ {tr : Tr α} {F : Facts}, F.holds → tr.all leaf F = true → ∃ a F', tr.pick = some a ∧ leaf F' a = true ∧ F'.holds
  | .no, F, hF, h => by cases h
  | .ok a, F, hF, h => ⟨a, F, rfl, h, hF⟩
  | .br x t f, F, hF, h => by
    simp only [Tr.all] at h
    split at h
    case isFalse => cases h
    rename_i w1
    obtain ⟨q, hq⟩ := sx_bool w1
    have hp : (Tr.br x t f).pick = if q then t.pick else f.pick := by
      simp only [Tr.pick, hq, isTrue]; cases q <;> rfl
    rw [hp]
    split at h
    · rename_i hd
      have := dec_spec hF w1 hd
      rw [hq] at this; cases this
      exact all_spec hF h
    · rename_i hd
      have := dec_spec hF w1 hd
      rw [hq] at this; cases this
      exact all_spec hF h
    · rw [Bool.and_eq_true] at h
      cases q with
      | true => exact all_spec (add_ok hF w1 hq) h.1
      | false => exact all_spec (add_ok hF w1 hq) h.2

/-- It is true. -/
def leafTrue (F : Facts) : PV → Bool
  | .v (.bool t) => t
  | .sy x => decide (x.ty = some .b) && (match dec F x with | some t => t | none => false)
  | _ => false

theorem VPure.weaken {P : Program} {f : FuncId} {args : List PV} {r r' : PV} (h : VPure P f args r) (hc : closed r' = true) (hr : ∀ (E : Env) (u : Value), Rep E r u → Rep E r' u) : VPure P f args r' := by
  refine ⟨h.1, hc, h.2.2.1, fun W S ents vals h1 h2 h3 h4 => (h.2.2.2 W S ents vals h1 h2 h3 h4).mono ?_⟩
  rintro e W' ⟨v, q, L', N, σ', S', rfl, rfl, hL, J, hR⟩
  exact ⟨v, r', L', N, σ', S', rfl, rfl, hL, J, hr _ _ hR⟩

/-- A law that is true, whatever the symbols are. -/
theorem vpure_true {P : Program} (hm : P.follows .mixedOrders = true) {ov : Callee} (ho : CalleeOk P ov) (fz : List Nat) {tab : List (Nat × FI)} (ht : TabOk P tab) (Fu D : Nat) {f : Nat} {args : List PV} {F : Facts} (hF : F.holds) (h : (runF ov fz tab Fu D f args).all leafTrue F = true) : VPure P f args (vb true) := by
  obtain ⟨r, F', h1, h2, h3⟩ := all_spec hF h
  have hV := vpure_pick hm ho fz ht Fu D h1
  unfold leafTrue at h2
  split at h2
  · subst h2; exact hV
  · rename_i x
    simp only [Bool.and_eq_true, decide_eq_true_eq] at h2
    obtain ⟨h4, h5⟩ := h2
    split at h5
    · rename_i t hd
      subst h5
      have := dec_spec h3 h4 hd
      exact hV.weaken rfl fun E u hu => by rw [rep_sy hu, this]; exact .v _
    · cases h5
  · cases h2

end Go.Proofs.Ytoblcfkmggbheaa.VL
