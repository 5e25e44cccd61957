/- Regions that draw their order (2): in whatever order, one end. -/
import Derived.Test.YtemdbhdjchkllaaVp
namespace Go.Proofs.Ytemdbhdjchkllaa.VL
open Go
set_option linter.unusedVariables false
set_option linter.unusedSimpArgs false

def IOper.tmps (io : IOper) : List Nat := io.dst.toList ++ (io.op.opds.filterMap fun x => match x with | .t n => some n | _ => none) ++ (io.guard.map (·.1)).toList

def preds (o : Oper) : List Nat := (o.after.toList.filter (Region.binds .any)).map (·.on)

def maskOf (f : Nat → Nat) (ps : List Nat) : Nat := ps.foldl (fun m e => m ||| 2 ^ e ||| f e) 0

/-- Of each operation: which ones come ahead of it, as bits. -/
def masks : List (List Nat) → List Nat → List Nat
  | [], acc => acc
  | ps :: r, acc => masks r (acc ++ [maskOf (fun e => acc.getD e 0) ps])

def conflict (x y : IOper) : Bool :=
  (match x.dst with | some d => y.tmps.contains d | none => false) || (match y.dst with | some d => x.tmps.contains d | none => false) || (x.op.cls == 2 && 1 ≤ y.op.cls) || (y.op.cls == 2 && 1 ≤ x.op.cls)

/-- WHAT IS ASKED OF A REGION THAT DRAWS ITS ORDER: two operations of which one hangs on the other are in an order. -/
def drawOk (ops : List Oper) (iops : List IOper) : Bool :=
  let ps := ops.map preds
  let ms := masks ps []
  (ps.zipIdx.all fun x => x.1.all (· < x.2)) && (iops.all fun x => x.op.cls ≤ 2) &&
  (iops.zipIdx.all fun y => iops.zipIdx.all fun x => !decide (x.2 < y.2) || !conflict x.1 y.1 || (ms.getD y.2 0).testBit x.2)

theorem testBit_maskOf (f : Nat → Nat) (ps : List Nat) (i : Nat) : (maskOf f ps).testBit i = ps.any fun e => decide (e = i) || (f e).testBit i := by
  have : ∀ (ps : List Nat) (m : Nat), (ps.foldl (fun m e => m ||| 2 ^ e ||| f e) m).testBit i = (m.testBit i || ps.any fun e => decide (e = i) || (f e).testBit i) := by
    intro ps
    induction ps with
    | nil => intro m; simp
    | cons e r ih =>
      intro m
      rw [List.foldl_cons, ih]
      simp only [Nat.testBit_or, Nat.testBit_two_pow, List.any_cons, Bool.or_assoc]
  rw [maskOf, this]; simp

theorem masks_length : ∀ (ps : List (List Nat)) (acc : List Nat), (masks ps acc).length = acc.length + ps.length
  | [], acc => by simp [masks]
  | p :: r, acc => by rw [masks, masks_length r]; simp; omega

theorem masks_old : ∀ (ps : List (List Nat)) (acc : List Nat) (k : Nat), k < acc.length → (masks ps acc)[k]? = acc[k]?
  | [], acc, k, _ => rfl
  | p :: r, acc, k, h => by
    rw [masks, masks_old r _ k (by simp; omega), List.getElem?_append_left h]

theorem masks_new : ∀ (ps : List (List Nat)) (acc : List Nat) (j : Nat) (p : List Nat), ps[j]? = some p → (∀ (k : Nat) (q : List Nat), ps[k]? = some q → ∀ e ∈ q, e < acc.length + k) →
    (masks ps acc)[acc.length + j]? = some (maskOf (fun e => (masks ps acc).getD e 0) p)
  | [], acc, j, p, h, _ => by simp at h
  | q :: r, acc, j, p, h, hlt => by
    cases j with
    | zero =>
      simp at h; subst h
      rw [masks, Nat.add_zero, masks_old r _ _ (by simp), List.getElem?_append_right (Nat.le_refl _)]
      simp only [Nat.sub_self, List.getElem?_cons_zero, Option.some.injEq]
      have hq := hlt 0 q rfl
      unfold maskOf
      have : ∀ (l : List Nat) (m : Nat), (∀ e ∈ l, e < acc.length) → l.foldl (fun m e => m ||| 2 ^ e ||| acc.getD e 0) m = l.foldl (fun m e => m ||| 2 ^ e ||| (masks r (acc ++ [q.foldl (fun m e => m ||| 2 ^ e ||| acc.getD e 0) 0])).getD e 0) m := by
        intro l
        induction l with
        | nil => intro m _; rfl
        | cons e l ih =>
          intro m hl
          rw [List.foldl_cons, List.foldl_cons]
          have he := hl e (by simp)
          have : (masks r (acc ++ [q.foldl (fun m e => m ||| 2 ^ e ||| acc.getD e 0) 0])).getD e 0 = acc.getD e 0 := by
            rw [List.getD_eq_getElem?_getD, masks_old r _ _ (by simp; omega), List.getElem?_append_left he, ← List.getD_eq_getElem?_getD]
          rw [this]
          exact ih _ fun x hx => hl x (by simp [hx])
      exact this q 0 fun e he => by have := hq e he; omega
    | succ j =>
      have := masks_new r (acc ++ [maskOf (fun e => acc.getD e 0) q]) j p (by simpa using h) (fun k q' hk e he => by
        have := hlt (k + 1) q' (by simpa using hk) e he
        simp; omega)
      simp only [List.length_append, List.length_cons, List.length_nil] at this
      rw [masks, show acc.length + (j + 1) = acc.length + (0 + 1) + j by omega]
      exact this

/-- One step of the text's order, or of another one. -/
def guardYes (io : IOper) (s : St) : Prop := match io.guard with | none => True | some (g, w) => s.t[g]? = some (.v (.bool w))
def guardNo (io : IOper) (s : St) : Prop := match io.guard with | none => False | some (g, w) => ∃ u, s.t[g]? = some (.v u) ∧ u ≠ .bool w

def Stp (P : Program) (io : IOper) (s s' : St) : Prop :=
  (guardYes io s ∧ ∃ p h' n', s' = St.put ⟨s.t, h', n'⟩ io.dst p ∧ (∀ K' : PV → List Slot → Nat → Prop, K' p h' n' → rawK P s.ev s.h s.n K' io.op) ∧ (io.op.cls ≤ 1 → h' = s.h ∧ n' = s.n) ∧
    (io.op.cls = 0 → ∀ h2 n2 (K' : PV → List Slot → Nat → Prop), K' p h2 n2 → rawK P s.ev h2 n2 K' io.op)) ∨
  (guardNo io s ∧ s' = s.put io.dst (.v undef))

theorem stp_of {P : Program} {io : IOper} {r : List IOper} {s : St} {Q : St → Prop} (hc : io.op.cls ≤ 2) (hK : opsK P true Q (io :: r) s) : ∃ s', Stp P io s s' ∧ opsK P true Q r s' := by
  rw [opsK] at hK
  have yes : guardYes io s → execK P true io s (opsK P true Q r) → ∃ s', Stp P io s s' ∧ opsK P true Q r s' := by
    intro hg hK
    rw [execK_raw] at hK
    obtain ⟨p, h', n', k1, k2, k3, k4⟩ := rawK_det hc hK
    exact ⟨_, .inl ⟨hg, p, h', n', rfl, k2, k3, k4⟩, k1⟩
  split at hK
  · rename_i hg; exact yes (by simp [guardYes, hg]) hK
  · rename_i g want hg
    split at hK
    · rename_i b hb
      by_cases hbw : b = want
      · exact yes (by simp [guardYes, hg, hb, hbw]) (hK.1 hbw)
      · have : b = !want := by cases b <;> cases want <;> simp_all
        exact ⟨_, .inr ⟨by simp only [guardNo, hg]; exact ⟨_, hb, by simp [hbw]⟩, rfl⟩, hK.2 this⟩
    · rename_i u hne hb
      exact ⟨_, .inr ⟨by simp only [guardNo, hg]; exact ⟨_, hb, fun h => hne want (by rw [h])⟩, rfl⟩, hK⟩
    · exact hK.elim

theorem opsK_of_stp {P : Program} {io : IOper} {s : St} {Q : St → Prop} (hg : guardYes io s ∧ rawK P s.ev s.h s.n (fun p h n => Q (St.put ⟨s.t, h, n⟩ io.dst p)) io.op ∨ guardNo io s ∧ Q (s.put io.dst (.v undef))) : opsK P true Q [io] s := by
  rw [opsK]
  rcases hg with ⟨h1, h2⟩ | ⟨h1, h2⟩
  · have hx : execK P true io s (opsK P true Q []) := by rw [execK_raw]; exact h2
    split
    · exact hx
    · rename_i g want hg
      simp only [guardYes, hg] at h1
      rw [h1]
      exact ⟨fun _ => hx, fun h => by cases want <;> simp at h⟩
  · unfold guardNo at h1
    split
    · rename_i hg; rw [hg] at h1; exact h1.elim
    · rename_i g want hg
      rw [hg] at h1
      obtain ⟨u, h3, h4⟩ := h1
      rw [h3]
      split
      · rename_i b hb
        cases hb
        exact ⟨fun h => absurd (by rw [h]) h4, fun _ => h2⟩
      · exact h2
      · rename_i hne1 hne2
        exact hne2 _ rfl

/-- The text's order, state by state. -/
theorem lex_of {P : Program} {Q : St → Prop} : ∀ (iops : List IOper) (s : St), (∀ io ∈ iops, io.op.cls ≤ 2) → opsK P true Q iops s → ∃ S : Nat → St, S 0 = s ∧ Q (S iops.length) ∧ ∀ (i : Nat) (io : IOper), iops[i]? = some io → Stp P io (S i) (S (i + 1))
  | [], s, _, h => ⟨fun _ => s, rfl, h, fun i io hi => by simp at hi⟩
  | io :: r, s, hc, h => by
    obtain ⟨s', h1, h2⟩ := stp_of (hc io (by simp)) h
    obtain ⟨S, g1, g2, g3⟩ := lex_of r s' (fun x hx => hc x (by simp [hx])) h2
    refine ⟨fun i => match i with | 0 => s | i + 1 => S i, rfl, by simpa using g2, ?_⟩
    intro i io' hi
    cases i with
    | zero => simp at hi; subst hi; simp only [g1]; exact h1
    | succ i => exact g3 i io' (by simpa using hi)

theorem put_t (s : St) (d : Option Nat) (p : PV) (t : Nat) (h : d ≠ some t) : (s.put d p).t[t]? = s.t[t]? := by
  cases d with
  | none => rfl
  | some d => simp only [St.put]; rw [List.getElem?_set_ne (by intro e; exact h (by rw [e]))]
theorem put_len (s : St) (d : Option Nat) (p : PV) : (s.put d p).t.length = s.t.length := by cases d <;> simp [St.put]

theorem stp_t {P : Program} {io : IOper} {s s' : St} (h : Stp P io s s') (t : Nat) (hd : io.dst ≠ some t) : s'.t[t]? = s.t[t]? := by
  rcases h with ⟨_, p, h', n', rfl, _⟩ | ⟨_, rfl⟩
  · exact put_t _ _ _ _ hd
  · exact put_t _ _ _ _ hd
theorem stp_len {P : Program} {io : IOper} {s s' : St} (h : Stp P io s s') : s'.t.length = s.t.length := by
  rcases h with ⟨_, p, h', n', rfl, _⟩ | ⟨_, rfl⟩ <;> exact put_len _ _ _
theorem stp_h {P : Program} {io : IOper} {s s' : St} (h : Stp P io s s') (hc : io.op.cls ≤ 1) : s'.h = s.h ∧ s'.n = s.n := by
  rcases h with ⟨_, p, h', n', rfl, _, h1, _⟩ | ⟨_, rfl⟩
  · obtain ⟨rfl, rfl⟩ := h1 hc
    cases io.dst <;> exact ⟨rfl, rfl⟩
  · cases io.dst <;> exact ⟨rfl, rfl⟩

/-- Where an order has come to: each temporary, and the memory, stand as at some place of the text's order. -/
structure Ok (iops : List IOper) (S : Nat → St) (L : Nat → Prop) (s : St) : Prop where
  len : s.t.length = (S 0).t.length
  t : ∀ (t : Nat), ∃ m, m ≤ iops.length ∧ s.t[t]? = (S m).t[t]? ∧ (∀ k, m = k + 1 → L k) ∧ (∀ (i : Nat) (io : IOper), iops[i]? = some io → L i → io.dst = some t → i < m) ∧ (∀ k, m = k + 1 → ∃ io, iops[k]? = some io ∧ io.dst = some t)
  h : ∃ m, m ≤ iops.length ∧ s.h = (S m).h ∧ s.n = (S m).n ∧ (∀ (i : Nat) (io : IOper), iops[i]? = some io → io.op.cls = 2 → (L i ↔ i < m))

theorem lex_t {P : Program} {iops : List IOper} {S : Nat → St} (hS : ∀ (i : Nat) (io : IOper), iops[i]? = some io → Stp P io (S i) (S (i + 1))) (t m : Nat) : ∀ (d : Nat), m + d ≤ iops.length → (∀ (i : Nat) (io : IOper), iops[i]? = some io → m ≤ i → i < m + d → io.dst ≠ some t) → (S (m + d)).t[t]? = (S m).t[t]?
  | 0, _, _ => rfl
  | d + 1, hd, h => by
    have hlt : m + d < iops.length := by omega
    rw [show m + (d + 1) = m + d + 1 by omega, stp_t (hS _ _ (List.getElem?_eq_getElem hlt)) t (h _ _ (List.getElem?_eq_getElem hlt) (by omega) (by omega))]
    exact lex_t hS t m d (by omega) fun i io hi h1 h2 => h i io hi h1 (by omega)

theorem lex_h {P : Program} {iops : List IOper} {S : Nat → St} (hS : ∀ (i : Nat) (io : IOper), iops[i]? = some io → Stp P io (S i) (S (i + 1))) (hcls : ∀ io ∈ iops, io.op.cls ≤ 2) (m : Nat) : ∀ (d : Nat), m + d ≤ iops.length → (∀ (i : Nat) (io : IOper), iops[i]? = some io → m ≤ i → i < m + d → io.op.cls ≠ 2) → (S (m + d)).h = (S m).h ∧ (S (m + d)).n = (S m).n
  | 0, _, _ => ⟨rfl, rfl⟩
  | d + 1, hd, h => by
    have hlt : m + d < iops.length := by omega
    have h1 := h _ _ (List.getElem?_eq_getElem hlt) (by omega) (by omega)
    have h2 := hcls _ (List.getElem_mem hlt)
    obtain ⟨e1, e2⟩ := stp_h (hS _ _ (List.getElem?_eq_getElem hlt)) (by omega)
    rw [show m + (d + 1) = m + d + 1 by omega, e1, e2]
    exact lex_h hS hcls m d (by omega) fun i io hi h1 h2 => h i io hi h1 (by omega)

theorem mapM_get {α β : Type} {f : α → Option β} : ∀ {l : List α} {l' : List β}, l.mapM f = some l' → l'.length = l.length ∧ ∀ (i : Nat) (x : α), l[i]? = some x → ∃ y, l'[i]? = some y ∧ f x = some y
  | [], l', h => by simp at h; subst h; simp
  | a :: l, l', h => by
    rw [List.mapM_cons] at h
    simp only [Option.bind_eq_bind, Option.bind_eq_some_iff, Option.pure_def, Option.some.injEq] at h
    obtain ⟨y, hy, r, hr, rfl⟩ := h
    obtain ⟨h1, h2⟩ := mapM_get hr
    refine ⟨by simp [h1], fun i x hx => ?_⟩
    cases i with
    | zero => simp at hx; subst hx; exact ⟨y, rfl, hy⟩
    | succ i => simpa using h2 i x (by simpa using hx)

theorem count_set (f g : Nat → Bool) (i : Nat) (hf : f i = true) (hg : ∀ j, g j = if j = i then false else f j) : ∀ (l : List Nat), l.Nodup → i ∈ l → (l.filter g).length + 1 = (l.filter f).length
  | [], _, h => by cases h
  | x :: l, hnd, hmem => by
    simp only [List.nodup_cons] at hnd
    by_cases hx : x = i
    · subst hx
      have hrest : l.filter g = l.filter f := by
        apply List.filter_congr
        intro j hj
        have : j ≠ x := fun h => hnd.1 (h ▸ hj)
        rw [hg j, if_neg this]
      rw [List.filter_cons, List.filter_cons, hg x, if_pos rfl, hf, hrest]
      simp
    · have hmem' : i ∈ l := by
        rcases List.mem_cons.1 hmem with h | h
        · exact absurd h.symm hx
        · exact h
      have ih := count_set f g i hf hg l hnd.2 hmem'
      rw [List.filter_cons, List.filter_cons, hg x, if_neg hx]
      cases f x
      · simpa using ih
      · simp only [if_true, List.length_cons]; omega

set_option maxHeartbeats 2000000 in
/-- WHATEVER ORDER IS DRAWN, the end is the text's. -/
theorem drawn_sound {P : Program} {C : Ctx} {st : St} {a : Act} {E : Env} {id : Nat} {ops : Array Oper} {slot : Option Nat → Nat} {iops : List IOper} {Q : St → Prop} {Q' : Exit → Act → World → Prop} (hm : P.follows .mixedOrders = true)
    (hmap : ops.toList.mapM (cOper P slot ops) = some iops) (hok : drawOk ops.toList iops = true) (hQ : ∀ st' a' E', InvE C st' a' E' → Q st' → Q' .normal a' E'.w) (I : InvE C st a E) (hK : opsK P true Q iops st) : (Code.region id ops true).wp P Q' a E.w := by
  obtain ⟨hlen, hget⟩ := mapM_get hmap
  simp only [drawOk, Bool.and_eq_true] at hok
  obtain ⟨⟨o1, o2⟩, o3⟩ := hok
  have hcls : ∀ io ∈ iops, io.op.cls ≤ 2 := by
    intro io hio
    have := List.all_eq_true.1 o2 io hio
    simpa using this
  obtain ⟨S, s0, sQ, hS⟩ := lex_of iops st hcls hK
  have hlt : ∀ (k : Nat) (q : List Nat), (ops.toList.map preds)[k]? = some q → ∀ e ∈ q, e < ([] : List Nat).length + k := by
    intro k q hk e he
    have h1 := List.all_eq_true.1 o1 (q, k) (by rw [List.mem_zipIdx_iff_getElem?]; exact hk)
    have h2 := List.all_eq_true.1 h1 e he
    simpa using h2
  -- what must come ahead has come
  have anc : ∀ (L : Nat → Prop), (∀ (j : Nat) (o : Oper), ops.toList[j]? = some o → L j → ∀ e ∈ preds o, L e) → ∀ (j : Nat) (o : Oper), ops.toList[j]? = some o → (∀ e ∈ preds o, L e) → ∀ i, ((masks (ops.toList.map preds) []).getD j 0).testBit i = true → L i := by
    intro L hL j
    induction j using Nat.strongRecOn with
    | _ j ih =>
      intro o ho hp i hb
      have h1 := masks_new (ops.toList.map preds) [] j (preds o) (by simp [ho]) hlt
      simp only [List.length_nil, Nat.zero_add] at h1
      rw [List.getD_eq_getElem?_getD, h1, Option.getD_some, testBit_maskOf, List.any_eq_true] at hb
      obtain ⟨e, he, hb⟩ := hb
      simp only [Bool.or_eq_true, decide_eq_true_eq] at hb
      rcases hb with rfl | hb
      · exact hp e he
      · have hej : e < j := by have := hlt j (preds o) (by simp [ho]) e he; simpa using this
        have hel : e < ops.toList.length := Nat.lt_trans hej (List.getElem?_eq_some_iff.1 ho).1
        exact ih e hej _ (List.getElem?_eq_getElem hel) (hL e _ (List.getElem?_eq_getElem hel) (hp e he)) i hb
  have ordered : ∀ (i j : Nat) (x y : IOper), iops[i]? = some x → iops[j]? = some y → i < j → conflict x y = true → ((masks (ops.toList.map preds) []).getD j 0).testBit i = true := by
    intro i j x y hx hy hij hcf
    have h1 := List.all_eq_true.1 o3 (y, j) (by rw [List.mem_zipIdx_iff_getElem?]; exact hy)
    have h2 := List.all_eq_true.1 h1 (x, i) (by rw [List.mem_zipIdx_iff_getElem?]; exact hx)
    simpa [hij, hcf] using h2
  have main : ∀ (fuel : Nat) (listed : Array Bool) (s : St) (a : Act) (E : Env), listed.size = ops.size → ((List.range ops.size).filter fun i => listed.getD i true = false).length = fuel →
      (∀ (j : Nat) (o : Oper), ops.toList[j]? = some o → listed.getD j false = true → ∀ e ∈ preds o, listed.getD e false = true) →
      Ok iops S (fun i => listed.getD i false = true) s → InvE C s a E → wpAny P .any ops Q' fuel listed a E.w := by
    intro fuel
    have size : iops.length = ops.size := by rw [hlen]; simp
    -- at the end
    have fin : ∀ (listed : Array Bool) (s : St) (a : Act) (E : Env), (∀ i, i < ops.size → listed.getD i false = true) → Ok iops S (fun i => listed.getD i false = true) s → InvE C s a E → Q' .normal a E.w := by
      intro listed s a E hall hO I
      have hs : s = S iops.length := by
        have ht : s.t = (S iops.length).t := by
          apply List.ext_getElem?
          intro t
          obtain ⟨m, m1, m2, m3, m4, m5⟩ := hO.t t
          rw [m2]
          have := lex_t hS t m (iops.length - m) (by omega) (fun i io hi h1 h2 hd => by
            have := m4 i io hi (hall i (by rw [← size]; exact (List.getElem?_eq_some_iff.1 hi).1)) hd
            omega)
          rw [show m + (iops.length - m) = iops.length by omega] at this
          exact this.symm
        obtain ⟨m, m1, m2, m3, m4⟩ := hO.h
        have := lex_h hS hcls m (iops.length - m) (by omega) (fun i io hi h1 h2 hd => by
          have := (m4 i io hi hd).1 (hall i (by rw [← size]; exact (List.getElem?_eq_some_iff.1 hi).1))
          omega)
        rw [show m + (iops.length - m) = iops.length by omega] at this
        cases s
        simp only at ht m2 m3
        rw [ht, m2, m3, ← this.1, ← this.2]
      subst hs
      exact hQ _ a E I sQ
    have noneReady : ∀ (listed : Array Bool), listed.size = ops.size → Region.ready .any ops listed = [] → ∀ i, i < ops.size → listed.getD i false = true := by
      intro listed hsz hr i
      induction i using Nat.strongRecOn with
      | _ i ih =>
        intro hi
        apply Classical.byContradiction
        intro hn
        have : i ∈ Region.ready .any ops listed := by
          rw [mem_ready]
          refine ⟨?_, ops[i], by simp [hi], fun e he hb => ?_⟩
          · simp [show i < listed.size by omega] at hn ⊢; exact hn
          · have h1 := hlt i (preds ops[i]) (by simp [hi]) e.on (by
              simp only [preds, List.mem_map, List.mem_filter]
              exact ⟨e, ⟨by simpa using he, hb⟩, rfl⟩)
            simp only [List.length_nil, Nat.zero_add] at h1
            exact ih e.on h1 (by omega)
        rw [hr] at this; cases this
    induction fuel with
    | zero =>
      intro listed s a E hsz hcnt hcl hO I
      have hall : ∀ i, i < ops.size → listed.getD i false = true := by
        intro i hi
        have : i ∉ (List.range ops.size).filter fun i => listed.getD i true = false := by
          rw [List.eq_nil_of_length_eq_zero hcnt]; simp
        simp only [List.mem_filter, List.mem_range, not_and, decide_eq_true_eq] at this
        have := this hi
        simp [show i < listed.size by omega] at this ⊢; exact this
      refine ⟨?_, fin listed s a E hall hO I⟩
      rw [List.eq_nil_iff_forall_not_mem]
      intro i hi
      obtain ⟨h1, o, ho, _⟩ := mem_ready.1 hi
      have hi' : i < ops.size := (Array.getElem?_eq_some_iff.1 ho).1
      have := hall i hi'
      simp [show i < listed.size by omega] at this h1
      rw [this] at h1; cases h1
    | succ fuel ih =>
      intro listed s a E hsz hcnt hcl hO I
      refine ⟨fun hr => fin listed s a E (noneReady listed hsz hr) hO I, fun i hi => ?_⟩
      obtain ⟨hun, o, ho, hready⟩ := mem_ready.1 hi
      have hi' : i < ops.size := (Array.getElem?_eq_some_iff.1 ho).1
      have hil : i < listed.size := by omega
      have hnl : ¬ (listed.getD i false = true) := by simp [hil] at hun ⊢; exact hun
      have ho' : ops.toList[i]? = some o := by simpa using ho
      obtain ⟨io, hio, hco⟩ := hget i o ho'
      have hpr : ∀ e ∈ preds o, listed.getD e false = true := by
        intro e he
        simp only [preds, List.mem_map, List.mem_filter] at he
        obtain ⟨x, ⟨hx, hb⟩, rfl⟩ := he
        exact hready x (by simpa using hx) hb
      have stp := hS i io hio
      -- what is ordered with it
      have before : ∀ (k : Nat) (x : IOper), iops[k]? = some x → k ≠ i → conflict x io = true ∨ conflict io x = true → (listed.getD k false = true ↔ k < i) := by
        intro k x hx hk hcf
        have sym : conflict x io = conflict io x := by
          simp only [conflict]
          cases x.dst <;> cases io.dst <;> simp [Bool.or_comm, Bool.or_left_comm, Bool.or_assoc]
        have hcf1 : conflict x io = true := by rcases hcf with h | h; exact h; rw [sym]; exact h
        constructor
        · intro hk1
          apply Classical.byContradiction
          intro hge
          have hik : i < k := by omega
          have hb := ordered i k io x hio hx hik (by rw [← sym]; exact hcf1)
          have hkl : k < ops.toList.length := by rw [← hlen]; exact (List.getElem?_eq_some_iff.1 hx).1
          exact hnl (anc (fun i => listed.getD i false = true) hcl k _ (List.getElem?_eq_getElem hkl) (hcl k _ (List.getElem?_eq_getElem hkl) hk1) i hb)
        · intro hki
          exact anc (fun i => listed.getD i false = true) hcl i o ho' hpr k (ordered k i x io hx hio hki hcf1)
      -- its temporaries are as in the text's order
      have tsame : ∀ t ∈ io.tmps, s.t[t]? = (S i).t[t]? := by
        intro t ht
        obtain ⟨m, m1, m2, m3, m4, m5⟩ := hO.t t
        have writer : ∀ (k : Nat) (x : IOper), iops[k]? = some x → x.dst = some t → k ≠ i → (listed.getD k false = true ↔ k < i) := by
          intro k x hx hd hk
          refine before k x hx hk (.inl ?_)
          simp only [conflict, hd, Bool.or_eq_true, List.contains_iff_mem]
          exact .inl (.inl (.inl ht))
        have hmi : m ≤ i := by
          cases hm : m with
          | zero => omega
          | succ k =>
            obtain ⟨x, hx, hd⟩ := m5 k hm
            have hk : k ≠ i := fun h => hnl (h ▸ m3 k hm)
            have := (writer k x hx hd hk).1 (m3 k hm)
            omega
        rw [m2]
        have := lex_t hS t m (i - m) (by omega) (fun k x hx h1 h2 hd => by
          have hki : k ≠ i := by omega
          have := m4 k x hx ((writer k x hx hd hki).2 (by omega)) hd
          omega)
        rw [show m + (i - m) = i by omega] at this
        exact this.symm
      have hev : ∀ x ∈ io.op.opds, s.ev x = (S i).ev x := by
        intro x hx
        cases x with
        | c p => rfl
        | t t =>
          have := tsame t (by
            simp only [IOper.tmps, List.mem_append, List.mem_filterMap]
            exact .inl (.inr ⟨.t t, hx, rfl⟩))
          simp only [St.ev, List.getD_eq_getElem?_getD, this]
      have hgd : ∀ g w, io.guard = some (g, w) → s.t[g]? = (S i).t[g]? := by
        intro g w hg
        exact tsame g (by simp only [IOper.tmps, List.mem_append, hg]; exact .inr (by simp))
      have heap : 1 ≤ io.op.cls → s.h = (S i).h ∧ s.n = (S i).n := by
        intro hc1
        obtain ⟨m, m1, m2, m3, m4⟩ := hO.h
        have writer : ∀ (k : Nat) (x : IOper), iops[k]? = some x → x.op.cls = 2 → k ≠ i → (listed.getD k false = true ↔ k < i) := by
          intro k x hx hd hk
          refine before k x hx hk (.inl ?_)
          simp only [conflict, hd, Bool.or_eq_true, Bool.and_eq_true, beq_self_eq_true, decide_eq_true_eq, true_and]
          exact .inl (.inr hc1)
        rcases Nat.le_total m i with hmi | hmi
        · have := lex_h hS hcls m (i - m) (by omega) (fun k x hx h1 h2 hd => by
            have hki : k ≠ i := by omega
            have := (m4 k x hx hd).1 ((writer k x hx hd hki).2 (by omega))
            omega)
          rw [show m + (i - m) = i by omega] at this
          exact ⟨m2.trans this.1.symm, m3.trans this.2.symm⟩
        · have := lex_h hS hcls i (m - i) (by omega) (fun k x hx h1 h2 hd => by
            have hl := (m4 k x hx hd).2 (by omega)
            by_cases hki : k = i
            · subst hki; exact hnl hl
            · have := (writer k x hx hd hki).1 hl
              omega)
          rw [show i + (m - i) = m by omega] at this
          exact ⟨m2.trans this.1, m3.trans this.2⟩
      -- the state behind it
      have next : ∀ (s' : St) (p : PV) (h' : List Slot) (n' : Nat), s' = St.put ⟨s.t, h', n'⟩ io.dst p → ((S (i + 1)).t = ((S i).put io.dst p).t) → (io.op.cls = 2 → h' = (S (i + 1)).h ∧ n' = (S (i + 1)).n) → (io.op.cls ≠ 2 → h' = s.h ∧ n' = s.n) →
          Ok iops S (fun j => (listed.setIfInBounds i true).getD j false = true) s' := by
        intro s' p h' n' hs' hp h2 h1
        have hset : ∀ j, ((listed.setIfInBounds i true).getD j false = true) ↔ (j = i ∨ listed.getD j false = true) := by
          intro j
          simp only [Array.getD_eq_getD_getElem?, Array.getElem?_setIfInBounds]
          by_cases hij : i = j
          · subst hij; simp [hil]
          · simp [hij, Ne.symm hij]
        have lenS : ∀ m, m ≤ iops.length → (S m).t.length = (S 0).t.length := by
          intro m
          induction m with
          | zero => intro _; rfl
          | succ m ihm =>
            intro hm
            have hml : m < iops.length := by omega
            rw [stp_len (hS m _ (List.getElem?_eq_getElem hml)), ihm (by omega)]
        have hln : s'.t.length = s.t.length := by subst hs'; rw [put_len]
        refine ⟨hln.trans hO.len, ?_, ?_⟩
        · intro t
          by_cases hd : io.dst = some t
          · refine ⟨i + 1, by rw [size]; omega, ?_, ?_, ?_, ?_⟩
            · rw [hp]; subst hs'
              simp only [St.put, hd]
              rw [List.getElem?_set, List.getElem?_set]
              simp only [if_true]
              rw [hO.len, lenS i (by rw [size]; omega)]
            · intro k hk; exact (hset k).2 (.inl (by omega))
            · intro k x hx hl hdx
              rcases (hset k).1 hl with rfl | hl
              · omega
              · by_cases hki : k = i
                · omega
                · have := (before k x hx hki (.inl (by
                    simp only [conflict, hdx, Bool.or_eq_true, List.contains_iff_mem]
                    exact .inl (.inl (.inl (by simp [IOper.tmps, hd])))))).1 hl
                  omega
            · intro k hk
              obtain rfl : k = i := by omega
              exact ⟨io, hio, hd⟩
          · obtain ⟨m, m1, m2, m3, m4, m5⟩ := hO.t t
            refine ⟨m, m1, ?_, fun k hk => (hset k).2 (.inr (m3 k hk)), ?_, m5⟩
            · rw [← m2]; subst hs'
              exact put_t _ _ _ _ hd
            · intro k x hx hl hdx
              rcases (hset k).1 hl with rfl | hl
              · rw [hio] at hx; cases hx; exact absurd hdx hd
              · exact m4 k x hx hl hdx
        · have sh : s'.h = h' ∧ s'.n = n' := by subst hs'; cases io.dst <;> exact ⟨rfl, rfl⟩
          by_cases hc2 : io.op.cls = 2
          · obtain ⟨e1, e2⟩ := h2 hc2
            refine ⟨i + 1, by rw [size]; omega, sh.1.trans e1, sh.2.trans e2, ?_⟩
            intro k x hx hcx
            rw [hset]
            by_cases hki : k = i
            · subst hki; simp
            · have := before k x hx hki (.inl (by
                simp only [conflict, hcx, hc2, Bool.or_eq_true]
                exact .inl (.inr (by simp))))
              rw [this]; omega
          · obtain ⟨e1, e2⟩ := h1 hc2
            obtain ⟨m, m1, m2, m3, m4⟩ := hO.h
            refine ⟨m, m1, (sh.1.trans e1).trans m2, (sh.2.trans e2).trans m3, ?_⟩
            intro k x hx hcx
            rw [hset, ← m4 k x hx hcx]
            constructor
            · rintro (rfl | h)
              · rw [hio] at hx; cases hx; exact absurd hcx hc2
              · exact h
            · exact .inr
      have go : opsK P true (fun s' => Ok iops S (fun j => (listed.setIfInBounds i true).getD j false = true) s') [io] s := by
        apply opsK_of_stp
        rcases stp with ⟨g1, p, h', n', e1, k2, k3, k4⟩ | ⟨g1, e1⟩
        · refine .inl ⟨?_, ?_⟩
          · unfold guardYes at g1 ⊢
            split
            · trivial
            · rename_i g w hg
              rw [hg] at g1
              rw [hgd g w hg]; exact g1
          · rw [rawK_congr hev]
            have ht : (S (i + 1)).t = ((S i).put io.dst p).t := by rw [e1]; cases io.dst <;> rfl
            have hh : (S (i + 1)).h = h' ∧ (S (i + 1)).n = n' := by rw [e1]; cases io.dst <;> exact ⟨rfl, rfl⟩
            have hc := hcls io (List.mem_of_getElem? hio)
            by_cases hc0 : io.op.cls = 0
            · exact k4 hc0 s.h s.n _ (next _ p s.h s.n rfl ht (fun h => by omega) (fun _ => ⟨rfl, rfl⟩))
            · obtain ⟨q1, q2⟩ := heap (by omega)
              rw [q1, q2]
              refine k2 _ (next _ p h' n' rfl ht (fun _ => ⟨hh.1.symm, hh.2.symm⟩) (fun hne => ?_))
              obtain ⟨r1, r2⟩ := k3 (by omega)
              exact ⟨r1.trans q1.symm, r2.trans q2.symm⟩
        · refine .inr ⟨?_, ?_⟩
          · unfold guardNo at g1 ⊢
            split
            · rename_i hg; rw [hg] at g1; exact g1
            · rename_i g w hg
              rw [hg] at g1
              obtain ⟨u, g2, g3⟩ := g1
              exact ⟨u, by rw [hgd g w hg]; exact g2, g3⟩
          · have ht : (S (i + 1)).t = ((S i).put io.dst (.v undef)).t := by rw [e1]
            have hh : (S (i + 1)).h = (S i).h ∧ (S (i + 1)).n = (S i).n := by rw [e1]; cases io.dst <;> exact ⟨rfl, rfl⟩
            refine next _ (.v undef) s.h s.n (by cases io.dst <;> rfl) ht (fun h2 => ?_) (fun _ => ⟨rfl, rfl⟩)
            obtain ⟨q1, q2⟩ := heap (by omega)
            exact ⟨q1.trans hh.1.symm, q2.trans hh.2.symm⟩
      refine wpOp_sound ho hco I go ?_
      intro st' a' E' I' hO'
      refine ih (listed.setIfInBounds i true) st' a' E' (by simp [hsz]) ?_ ?_ hO' I'
      · -- one fewer is left
        have hset : ∀ j, (listed.setIfInBounds i true).getD j true = if j = i then true else listed.getD j true := by
          intro j
          simp only [Array.getD_eq_getD_getElem?, Array.getElem?_setIfInBounds]
          by_cases hij : i = j
          · subst hij; simp [hil]
          · simp [hij, Ne.symm hij]
        have cnt := count_set (fun j => decide (listed.getD j true = false)) (fun j => decide ((listed.setIfInBounds i true).getD j true = false)) i (by simp [hun]) (fun j => by rw [hset j]; by_cases h : j = i <;> simp [h])
        have := cnt (List.range ops.size) List.nodup_range (by simpa using hi')
        omega
      · intro j o2 hj hlj e he
        have hset : ∀ j, ((listed.setIfInBounds i true).getD j false = true) ↔ (j = i ∨ listed.getD j false = true) := by
          intro j
          simp only [Array.getD_eq_getD_getElem?, Array.getElem?_setIfInBounds]
          by_cases hij : i = j
          · subst hij; simp [hil]
          · simp [hij, Ne.symm hij]
        rcases (hset j).1 hlj with rfl | hlj
        · rw [ho'] at hj; cases hj
          exact (hset e).2 (.inr (hpr e he))
        · exact (hset e).2 (.inr (hcl j o2 hj hlj e he))
  refine wp_region_any hm (main ops.size (Array.replicate ops.size false) st a ⟨E.w.drew, E.σ, E.S⟩ (by simp) ?_ ?_ ?_ I.drew)
  · have : ((List.range ops.size).filter fun i => (Array.replicate ops.size false).getD i true = false) = List.range ops.size := by
      rw [List.filter_eq_self]
      intro j hj
      rw [List.mem_range] at hj
      simp [hj]
    rw [this]; simp
  · intro j o hj hl e he
    by_cases hj' : j < ops.size <;> simp [hj'] at hl
  · subst s0
    refine ⟨rfl, fun t => ⟨0, Nat.zero_le _, rfl, fun k hk => by omega, fun i io hi hl hd => ?_, fun k hk => by omega⟩, ⟨0, Nat.zero_le _, rfl, rfl, fun i io hi hc => ?_⟩⟩
    · by_cases hj' : i < ops.size <;> simp [hj'] at hl
    · constructor
      · intro hl
        by_cases hj' : i < ops.size <;> simp [hj'] at hl
      · intro h; omega

end Go.Proofs.Ytemdbhdjchkllaa.VL
