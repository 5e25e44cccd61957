/- Each operation over logical values tells what the model's operation does (2). -/
import Derived.Test.YticljphbbdnomaaVe
namespace Go.Proofs.Yticljphbbdnomaa.VL
open Go
set_option linter.unusedVariables false
set_option linter.unusedSimpArgs false

variable {P : Program} {C : Ctx} {st : St} {a : Act} {E : Env} {K : PV → List Slot → Nat → Prop} {o : Oper}

theorem out_mov (I : InvE C st a E) {x : Operand} {y : Opd} (ho : o.op = .move x ∨ o.op = .assign x) (hx : cOpd x = some y) (hK : opK st.ev st.h st.n K (.mov y)) : Out P o C st a E K := by
  refine Out.same I hK ?_ (ev_rep I hx)
  rcases ho with ho | ho <;> simp [execOp, ho]

theorem out_pick (I : InvE C st a E) {c x y : Operand} {c' x' y' : Opd} (ho : o.op = .pick c x y) (hc : cOpd c = some c') (hx : cOpd x = some x') (hy : cOpd y = some y') (hK : opK st.ev st.h st.n K (.pick c' x' y')) : Out P o C st a E K := by
  have hr := ev_rep I hc
  simp only [opK] at hK
  split at hK
  · rename_i t hev
    rw [hev] at hr
    have hr := rep_v hr
    cases t with
    | true => exact Out.same I (hK.1 rfl) (by simp [execOp, ho, hr, asBool]) (ev_rep I hx)
    | false => exact Out.same I (hK.2 rfl) (by simp [execOp, ho, hr, asBool]) (ev_rep I hy)
  · exact hK.elim

theorem out_nilc (I : InvE C st a E) {x : Operand} {y : Opd} (ho : o.op = .nilCheck x) (hx : cOpd x = some y) (hK : opK st.ev st.h st.n K (.nilc y)) : Out P o C st a E K := by
  have hr := ev_rep I hx
  simp only [opK] at hK
  split at hK
  · rename_i hev
    rw [hev] at hr hK
    obtain ⟨en, hσ, hu⟩ := rep_optr hr
    exact Out.same I hK (by simp only [execOp, ho, hu]; rfl) (by rw [← hu]; exact hr)
  · rename_i hev
    rw [hev] at hr hK
    obtain ⟨rb, off, U, hu, _⟩ := rep_sptr hr
    exact Out.same I hK (by simp only [execOp, ho, hu]; rfl) (by rw [← hu]; exact hr)
  · rename_i hev
    rw [hev] at hr hK
    have : ∃ f us vs, a.eval x = .func (.func f) us vs := by
      generalize a.eval x = u at hr
      cases hr with | clo f fs cs us vs hk g hl h => exact ⟨_, _, _, rfl⟩
    obtain ⟨f, us, vs, hu⟩ := this
    exact Out.same I hK (by simp only [execOp, ho, hu]; rfl) (by rw [← hu]; exact hr)
  · exact hK.elim

theorem run_eqGuard_int (op : BinOp) (t : TypeId) (x y : Operand) (k k' : IntKind) (m n : Int) (w : World) : (eqGuard op t x y (.int k m) (.int k' n)).run P w = .ok () w := by
  cases op <;> rfl
theorem run_eqGuard_str (op : BinOp) (t : TypeId) (x y : Operand) (m n : ByteArray) (w : World) : (eqGuard op t x y (.string m) (.string n)).run P w = .ok () w := by
  cases op <;> rfl
theorem run_eqGuard_bool (op : BinOp) (t : TypeId) (x y : Operand) (m n : Bool) (w : World) : (eqGuard op t x y (.bool m) (.bool n)).run P w = .ok () w := by
  cases op <;> rfl
theorem run_eqGuard_slice (op : BinOp) (t : TypeId) (x y : Operand) (a b : Option Addr) (l m l' m' : Nat) (w : World) : (eqGuard op t x y (.slice a l m) (.slice b l' m')).run P w = .ok () w := by
  cases op <;> rfl

theorem run_shift {op : BinOp} {k k' : IntKind} {m n : Int} {u : Value} (h : shifts op k m n = some u) (w : World) : (Op.shift op k m k' n).run P w = .ok u w := by
  unfold shifts at h
  split at h
  · cases h
  · rename_i hn
    unfold Op.shift
    rw [if_neg hn]
    cases op <;> simp at h <;> subst h <;> rfl

theorem run_arith {op : BinOp} {k : IntKind} {m n : Int} {u : Value} (hs : op ≠ .shl ∧ op ≠ .shr) (h : arith op k m n = some u) (t : TypeId) (w : World) : (binOp op t (.int k m) (.int k n)).run P w = .ok u w := by
  cases op <;> simp only [arith] at h <;> first
    | (simp at hs; done)
    | (simp at h; subst h; simp [binOp, Op.intArith]; done)
    | (simp at h; subst h; simp [binOp, Op.intBits]; done)
    | (simp at h; subst h; simp [binOp, Op.intCmp]; done)
    | (split at h
       · cases h
       · rename_i h0; cases h; simp [binOp, Op.intDiv, h0])

theorem run_strOp {op : BinOp} {m n : ByteArray} {u : Value} (h : strOp op m n = some u) (t : TypeId) (w : World) : (binOp op t (.string m) (.string n)).run P w = .ok u w := by
  cases op <;> simp only [strOp] at h <;> first
    | (cases h; done)
    | (split at h
       · rename_i hle
         cases h
         simp only [binOp, Op.stringOp]
         rw [if_neg (by simp only [IntKind.max, IntKind.signed, IntKind.bits]; simp; omega)]
         rfl
       · cases h)
    | (cases h; simp only [binOp, Op.stringOp]; first | rfl | simp)

theorem out_bin (I : InvE C st a E) {op : BinOp} {t t' : TypeId} {x y : Operand} {x' y' : Opd} (ho : o.op = .binOp op t x y t') (hx : cOpd x = some x') (hy : cOpd y = some y') (hK : opK st.ev st.h st.n K (.bin op x' y')) : Out P o C st a E K := by
  have hrx := ev_rep I hx
  have hry := ev_rep I hy
  simp only [opK] at hK
  split at hK
  case h_2 => exact hK.elim
  rename_i u hu
  unfold binV at hu
  split at hu
  · rename_i k m k' n h1 h2
    rw [h1] at hrx; rw [h2] at hry
    have hrx := rep_v hrx
    have hry := rep_v hry
    refine Out.same I hK ?_ (.v u)
    simp only [execOp, ho, hrx, hry, Sem.run_bind, run_eqGuard_int, Result.andThen_ok]
    have : (binOp op t (.int k m) (.int k' n)).run P E.w = .ok u E.w := by
      split at hu
      · exact run_shift (k' := k') hu E.w
      · exact run_shift (k' := k') hu E.w
      · rename_i hn1 hn2
        split at hu
        · rename_i hk
          subst hk
          exact run_arith ⟨hn1, hn2⟩ hu t E.w
        · cases hu
    rw [this]; rfl
  · rename_i m n h1 h2
    rw [h1] at hrx; rw [h2] at hry
    have hrx := rep_v hrx
    have hry := rep_v hry
    refine Out.same I hK ?_ (.v u)
    simp only [execOp, ho, hrx, hry, Sem.run_bind, run_eqGuard_str, Result.andThen_ok]
    rw [run_strOp hu]; rfl
  · cases hu

theorem run_equalIn_bool {t : TypeId} (ht : P.underlying t = some .bool) (m n : Bool) (w : World) (d : Nat) : (Op.equalIn (d + 1) t (.bool m) (.bool n)).run P w = .ok (m == n) w := by
  simp only [Op.equalIn, Sem.run_bind, run_underlying ht, Result.andThen_ok, Sem.run_pure]
theorem run_equal_bool {t : TypeId} (ht : P.underlying t = some .bool) (m n : Bool) (w : World) : (Op.equal t (.bool m) (.bool n)).run P w = .ok (m == n) w := run_equalIn_bool ht m n w 9999
theorem run_equalIn_nil {t e : TypeId} (ht : P.underlying t = some (.slice e)) (ad : Option Addr) (l m : Nat) (w : World) (d : Nat) : (Op.equalIn (d + 1) t (.slice ad l m) (.slice none 0 0)).run P w = .ok ad.isNone w := by
  cases ad <;> simp only [Op.equalIn, Sem.run_bind, run_underlying ht, Result.andThen_ok, Sem.run_pure] <;> rfl
theorem run_equal_nil {t e : TypeId} (ht : P.underlying t = some (.slice e)) (ad : Option Addr) (l m : Nat) (w : World) : (Op.equal t (.slice ad l m) (.slice none 0 0)).run P w = .ok ad.isNone w := run_equalIn_nil ht ad l m w 9999

theorem out_binB (I : InvE C st a E) {op : BinOp} {neg : Bool} {t t' : TypeId} {x y : Operand} {x' y' : Opd} (ho : o.op = .binOp op t x y t') (hop : (op = .eql ∧ neg = false) ∨ (op = .neq ∧ neg = true)) (ht : P.underlying t = some .bool)
    (hx : cOpd x = some x') (hy : cOpd y = some y') (hK : opK st.ev st.h st.n K (.binB neg x' y')) : Out P o C st a E K := by
  have hrx := ev_rep I hx
  have hry := ev_rep I hy
  simp only [opK] at hK
  split at hK
  case h_2 => exact hK.elim
  rename_i m n h1 h2
  rw [h1] at hrx; rw [h2] at hry
  have hrx := rep_v hrx
  have hry := rep_v hry
  refine Out.same I hK ?_ (.v _)
  have e1 : ∀ m n : Bool, binOp .eql t (.bool m) (.bool n) = (do pure (.bool (← Op.equal t (.bool m) (.bool n)))) := fun _ _ => rfl
  have e2 : ∀ m n : Bool, binOp .neq t (.bool m) (.bool n) = (do pure (.bool (!(← Op.equal t (.bool m) (.bool n))))) := fun _ _ => rfl
  rcases hop with ⟨rfl, rfl⟩ | ⟨rfl, rfl⟩ <;>
    simp only [execOp, ho, hrx, hry, Sem.run_bind, run_eqGuard_bool, e1, e2, run_equal_bool ht, Result.andThen_ok, Sem.run_pure] <;> rfl

theorem rep_slice {p : PV} {u : Value} (h : Rep E p u) (hp : ∀ x, p ≠ .v x) (hd : p ≠ .dead) : (∀ c es, p = .sl c es → ∃ ad l m, u = .slice ad l m ∧ l = es.length ∧ l ≤ m ∧ (ad = none → m = 0) ∧ (c = true → m = l)) := by
  intro c es hp
  subst hp
  cases h with
  | emp _ ad cap hc hn => exact ⟨ad, 0, cap, rfl, rfl, Nat.zero_le _, hn, hc⟩
  | sl _ _ rb off cap sz U hne hS hc hcap hsz0 hsz hm ho h => exact ⟨_, _, _, rfl, rfl, hcap, by simp, hc⟩

theorem rep_sl {c : Bool} {es : List PV} {u : Value} (h : Rep E (.sl c es) u) : ∃ ad m, u = .slice ad es.length m ∧ es.length ≤ m ∧ (ad = none → m = 0) ∧ (c = true → m = es.length) :=
  let ⟨ad, l, m, h1, h2, h3, h4, h5⟩ := rep_slice h (by simp) (by simp) c es rfl
  ⟨ad, m, h2 ▸ h1, h2 ▸ h3, h4, fun hc => (h5 hc).trans h2⟩

theorem rep_own {b s sz off len : Nat} {cap : Option Nat} {u : Value} (h : Rep E (.own b s sz off len cap) u) :
    ∃ en c ad, u = .slice ad len c ∧ E.σ s = some en ∧ en.sz = sz ∧ (c ≠ 0 → ad = some ⟨en.rb, en.base + off * en.sz, none⟩) ∧ (ad = none → c = 0) ∧ len ≤ c ∧ (∀ k, cap = some k → c = k) ∧ off + c ≤ en.tot ∧ (cap = none → off + c = en.tot) := by
  cases h with | own _ _ _ _ _ en c ad hb ha hn hlen hc htot hcap => exact ⟨en, c, ad, rfl, hb, rfl, ha, hn, hlen, hc, htot, hcap⟩

theorem out_nilq (I : InvE C st a E) {op : BinOp} {neg : Bool} {t t' e : TypeId} {x : Operand} {x' : Opd} (ho : o.op = .binOp op t x (.const (.slice none 0 0)) t') (hop : (op = .eql ∧ neg = false) ∨ (op = .neq ∧ neg = true)) (ht : P.underlying t = some (.slice e))
    (hx : cOpd x = some x') (hK : opK st.ev st.h st.n K (.nilq neg x')) : Out P o C st a E K := by
  have hrx := ev_rep I hx
  have run : ∀ {ad : Option Addr} {l m : Nat}, a.eval x = .slice ad l m → (execOp a.eval o).run P E.w = .ok (.value (.bool (if neg then !ad.isNone else ad.isNone))) E.w := by
    intro ad l m hu
    have hu2 : a.eval (.const (.slice none 0 0)) = .slice none 0 0 := rfl
    have e1 : binOp .eql t (.slice ad l m) (.slice none 0 0) = (do pure (.bool (← Op.equal t (.slice ad l m) (.slice none 0 0)))) := rfl
    have e2 : binOp .neq t (.slice ad l m) (.slice none 0 0) = (do pure (.bool (!(← Op.equal t (.slice ad l m) (.slice none 0 0))))) := rfl
    rcases hop with ⟨rfl, rfl⟩ | ⟨rfl, rfl⟩ <;>
      simp only [execOp, ho, hu, hu2, Sem.run_bind, run_eqGuard_slice, e1, e2, run_equal_nil ht, Result.andThen_ok, Sem.run_pure] <;> rfl
  simp only [opK] at hK
  split at hK
  · rename_i c es hev
    rw [hev] at hrx
    obtain ⟨ad, m, hu, h1, h2, h3⟩ := rep_sl hrx
    cases had : ad with
    | none =>
      have hes : es = [] := by have := h2 had; apply List.eq_nil_of_length_eq_zero; omega
      refine Out.same I (hK.1 hes) (run hu) ?_
      subst had; cases neg <;> exact .v _
    | some x =>
      refine Out.same I hK.2 (run hu) ?_
      subst had; cases neg <;> exact .v _
  · rename_i hev
    rw [hev] at hrx
    obtain ⟨en, c, ad, hu, _, _, _, hn, hlen, _⟩ := rep_own hrx
    cases had : ad with
    | none =>
      refine Out.same I (hK.1 ?_) (run hu) ?_
      · have h1 := hn had
        omega
      subst had; cases neg <;> exact .v _
    | some x =>
      refine Out.same I hK.2 (run hu) ?_
      subst had; cases neg <;> exact .v _
  · exact hK.elim

theorem out_un (I : InvE C st a E) {op : UnOp} {t : TypeId} {x : Operand} {x' : Opd} (ho : o.op = .unOp op t x) (hx : cOpd x = some x') (hK : opK st.ev st.h st.n K (.un op x')) : Out P o C st a E K := by
  have hrx := ev_rep I hx
  simp only [opK] at hK
  split at hK
  case h_2 => exact hK.elim
  rename_i u hu
  refine Out.same I hK ?_ (.v u)
  unfold unV at hu
  split at hu
  · rename_i m h1
    rw [h1] at hrx
    have hrx := rep_v hrx
    split at hu
    · cases hu; simp [execOp, ho, hrx, Op.unary]
    · cases hu
  · rename_i k m h1
    rw [h1] at hrx
    have hrx := rep_v hrx
    split at hu
    · cases hu; simp [execOp, ho, hrx, Op.unary, Op.intArith]
    · cases hu; simp [execOp, ho, hrx, Op.unary, Op.intBits]
    · cases hu
  · cases hu

theorem out_conv (I : InvE C st a E) {s t : TypeId} {d : TypeDesc} {k : IntKind} {x : Operand} {x' : Opd} (ho : o.op = .convert s t x) (hs : P.underlying s = some d) (ht : P.underlying t = some (.int k)) (hx : cOpd x = some x') (hK : opK st.ev st.h st.n K (.conv k x')) : Out P o C st a E K := by
  have hrx := ev_rep I hx
  simp only [opK] at hK
  split at hK
  case h_2 => exact hK.elim
  rename_i k' m h1
  rw [h1] at hrx
  have hrx := rep_v hrx
  refine Out.same I hK ?_ (.v _)
  simp [execOp, ho, hrx, convert, run_underlying hs, run_underlying ht, Conv.intToInt]

theorem out_convS (I : InvE C st a E) {s t : TypeId} {d : TypeDesc} {x : Operand} {x' : Opd} (ho : o.op = .convert s t x) (hs : P.underlying s = some d) (ht : P.underlying t = some .string) (hx : cOpd x = some x') (hK : opK st.ev st.h st.n K (.convS x')) : Out P o C st a E K := by
  have hrx := ev_rep I hx
  simp only [opK] at hK
  split at hK
  case h_2 => exact hK.elim
  rename_i m h1
  rw [h1] at hrx
  have hrx := rep_v hrx
  refine Out.same I hK ?_ (.v _)
  simp [execOp, ho, hrx, convert, run_underlying hs, run_underlying ht]

theorem out_fn (I : InvE C st a E) {f : FuncId} {fs cs : Array Operand} {fs' cs' : List Opd} (ho : o.op = .makeFunc (.func f) fs cs) (hf : cOpds fs = some fs') (hc : cOpds cs = some cs') (hK : opK st.ev st.h st.n K (.fn f fs' cs')) : Out P o C st a E K := by
  obtain ⟨h1, h2⟩ := evs_rep I hf
  obtain ⟨h3, h4⟩ := evs_rep I hc
  refine Out.same I hK (u := .func (.func f) (fs.map a.eval) (cs.map a.eval)) (by simp [execOp, ho, Instr.makeFunc]) ?_
  refine .clo f _ _ _ _ (by simpa using h1) (fun i c u hc hu => h2 i c u hc (by simpa using hu)) (by simpa using h3) (fun i c u hc hu => h4 i c u hc (by simpa using hu))

theorem out_fad (I : InvE C st a E) {t : TypeId} {x : Operand} {x' : Opd} {k off : Nat} {fs : Array Field} {f : Field} {i : TypeInfo} (ho : o.op = .fieldAddr t x k) (ht : P.underlying t = some (.struct fs)) (hf : fs[k]? = some f) (hi : P.info? f.type = some i) (h0 : i.size ≠ 0) (hoff : f.offset = off)
    (hx : cOpd x = some x') (hK : opK st.ev st.h st.n K (.fad off x')) : Out P o C st a E K := by
  have hrx := ev_rep I hx
  have run : ∀ {rb q : Nat}, a.eval x = .pointer (some ⟨rb, q, none⟩) → (execOp a.eval o).run P E.w = .ok (.value (.pointer (some ⟨rb, q + off, none⟩))) E.w := by
    intro rb q hu
    simp [execOp, ho, hu, Instr.fieldAt, run_underlying ht, hf, Instr.sureAddr, fieldPlace, run_sizeOf hi, h0, add_addr, hoff]
  simp only [opK] at hK
  split at hK
  · rename_i b s r q hev
    rw [hev] at hrx
    obtain ⟨en, hσ, hu⟩ := rep_optr hrx
    refine Out.same I hK (run hu) ?_
    rw [Nat.add_assoc]
    exact .optr b s r (q + off) en hσ
  · rename_i cs hev
    rw [hev] at hrx
    obtain ⟨rb, q, U, hu, hS, hm, ho', h⟩ := rep_sptr hrx
    refine Out.same I hK (run hu) ?_
    refine .sptr _ rb (q + off) (fun j => U (off + j)) hS (fun j c hc => ?_) (fun j => ho' _) (fun j c hc => ?_)
    · rw [List.getElem?_drop] at hc
      have := hm _ c hc
      rw [← this]; congr 2; omega
    · rw [List.getElem?_drop] at hc; exact h _ c hc
  · exact hK.elim

theorem run_part {t : TypeId} {g : Bool} {i : TypeInfo} {vs : Array Value} {off : Nat} {w : World} (hg : isAggT P t = some g) (hi : P.info? t = some i) (hle : off + i.size ≤ vs.size) (h1 : g = false → i.size = 1) :
    (part t vs off).run P w = .ok (if g then .agg ((List.range i.size).map fun j => vs.getD (off + j) undef).toArray else vs.getD off undef) w := by
  unfold part
  simp only [Sem.run_bind, run_isAgg hg, Result.andThen_ok]
  cases g with
  | true =>
    simp only [if_true, Sem.run_bind, run_sizeOf hi, Result.andThen_ok, Sem.run_pure, Result.ok.injEq, and_true, Value.agg.injEq]
    apply Array.ext
    · simp; omega
    · intro j hj1 hj2
      simp only [List.size_toArray, List.length_map, List.length_range] at hj2
      simp [Array.getElem_extract]
      rw [Array.getElem?_eq_getElem (by omega)]; rfl
  | false =>
    have := h1 rfl
    have hlt : off < vs.size := by omega
    simp [hlt]

theorem ldv_agg {g : Bool} {m off : Nat} {cs : List PV} {p : PV} {vs : Array Value} (hl : ldv g m (.agg cs) off = some p) (hsz : vs.size = cs.length) (ho : ∀ (i : Nat) (u : Value), vs[i]? = some u → u.oneCell' = true)
    (h : ∀ (i : Nat) (c : PV) (u : Value), cs[i]? = some c → vs[i]? = some u → Rep E c u) : off + m ≤ vs.size ∧ (g = false → m = 1) ∧ Rep E p (if g then .agg ((List.range m).map fun j => vs.getD (off + j) undef).toArray else vs.getD off undef) := by
  have key := ldv_rep (E := E) (X := fun j => if j < vs.size then vs.getD j undef else .int .i64 0) hl (fun j c hc => by
    have hj : j < vs.size := by have := (List.getElem?_eq_some_iff.1 hc).1; simp only [PV.cells] at this; omega
    simp only [hj, if_true]
    exact h j c _ hc (by simp [hj])) (fun j => by
    split
    · rename_i hj
      exact ho j _ (by simp [hj])
    · rfl)
  obtain ⟨k1, k2, k3⟩ := key
  simp only [PV.cells] at k1
  refine ⟨by omega, k2, ?_⟩
  cases g with
  | true =>
    simp only [if_true] at k3 ⊢
    have : (List.map (fun j => if off + j < vs.size then vs.getD (off + j) undef else .int .i64 0) (List.range m)) = List.map (fun j => vs.getD (off + j) undef) (List.range m) := by
      apply List.map_congr_left
      intro j hj
      rw [List.mem_range] at hj
      rw [if_pos (by omega)]
    rw [this] at k3; exact k3
  | false =>
    have := k2 rfl
    simp only [Bool.false_eq_true, if_false] at k3 ⊢
    rwa [if_pos (by omega)] at k3

theorem out_fld (I : InvE C st a E) {t : TypeId} {x : Operand} {x' : Opd} {k off : Nat} {g : Bool} {fs : Array Field} {f : Field} {i : TypeInfo} (ho : o.op = .field t x k) (ht : P.underlying t = some (.struct fs)) (hf : fs[k]? = some f) (hi : P.info? f.type = some i) (hg : isAggT P f.type = some g) (hoff : f.offset = off)
    (hx : cOpd x = some x') (hK : opK st.ev st.h st.n K (.fld g off i.size x')) : Out P o C st a E K := by
  have hrx := ev_rep I hx
  simp only [opK] at hK
  split at hK
  · rename_i cs hev
    rw [hev] at hrx
    obtain ⟨vs, hu, hsz, ho', h⟩ := rep_agg hrx
    obtain ⟨_, p, h1, h2⟩ := hK
    obtain ⟨l1, l2, l3⟩ := ldv_agg (E := E) h1 hsz ho' h
    refine Out.same I h2 ?_ l3
    simp only [execOp, ho, hu, Instr.field, asAgg, Sem.run_bind, run_underlying ht, Result.andThen_ok, hf, Sem.run_pure, hoff]
    rw [run_part hg hi l1 l2]; rfl
  · exact hK.elim

theorem out_ext (I : InvE C st a E) {x : Operand} {x' : Opd} {k : Nat} (ho : o.op = .extract x k) (hx : cOpd x = some x') (hK : opK st.ev st.h st.n K (.ext x' k)) : Out P o C st a E K := by
  have hrx := ev_rep I hx
  simp only [opK] at hK
  split at hK
  · rename_i cs hev
    rw [hev] at hrx
    obtain ⟨c, hc, hk⟩ := hK
    generalize hu : a.eval x = u at hrx
    cases hrx with
    | tup _ vs hl h =>
      have hlt : k < vs.size := by have := (List.getElem?_eq_some_iff.1 hc).1; omega
      refine Out.same I hk (u := vs[k]) ?_ (h k c _ hc (by simp [hlt]))
      simp [execOp, ho, hu, Instr.extract, hlt]
  · exact hK.elim

theorem out_len (I : InvE C st a E) {t e ty : TypeId} {x : Operand} {x' : Opd} {cl : Call} (ho : o.op = .call cl) (hc : cl.callee = .builtin .len) (ha : cl.args = #[x]) (hat : cl.argTypes = #[t]) (ht : P.underlying t = some (.slice e)) (hx : cOpd x = some x') (hK : opK st.ev st.h st.n K (.len x')) : Out P o C st a E K := by
  have hrx := ev_rep I hx
  have run : ∀ {ad : Option Addr} {l m : Nat}, a.eval x = .slice ad l m → (execOp a.eval o).run P E.w = .ok (.value (.int .i64 l)) E.w := by
    intro ad l m hu
    simp [execOp, ho, resolve, hc, ha, hat, hu, invoke, builtin, Builtin.len_, run_underlying ht, goInt]
  simp only [opK] at hK
  split at hK
  · rename_i c es hev
    rw [hev] at hrx
    obtain ⟨ad, m, hu, _⟩ := rep_sl hrx
    exact Out.same I hK (run hu) (.v _)
  · rename_i hev
    rw [hev] at hrx
    obtain ⟨en, c, ad, hu, _⟩ := rep_own hrx
    exact Out.same I hK (run hu) (.v _)
  · exact hK.elim

theorem out_cap (I : InvE C st a E) {t e ty : TypeId} {x : Operand} {x' : Opd} {cl : Call} (ho : o.op = .call cl) (hc : cl.callee = .builtin .cap) (ha : cl.args = #[x]) (hat : cl.argTypes = #[t]) (ht : P.underlying t = some (.slice e)) (hx : cOpd x = some x') (hK : opK st.ev st.h st.n K (.cap x')) : Out P o C st a E K := by
  have hrx := ev_rep I hx
  have run : ∀ {ad : Option Addr} {l m : Nat}, a.eval x = .slice ad l m → (execOp a.eval o).run P E.w = .ok (.value (.int .i64 m)) E.w := by
    intro ad l m hu
    simp [execOp, ho, resolve, hc, ha, hat, hu, invoke, builtin, Builtin.cap_, run_underlying ht, goInt]
  simp only [opK] at hK
  split at hK
  · rename_i es hev
    rw [hev] at hrx
    obtain ⟨ad, m, hu, h1, h2, h3⟩ := rep_sl hrx
    have := h3 rfl; subst this
    exact Out.same I hK (run hu) (.v _)
  · rename_i es hev
    rw [hev] at hrx
    obtain ⟨ad, m, hu, h1, h2, h3⟩ := rep_sl hrx
    exact Out.same I (hK m h1) (run hu) (.v _)
  · rename_i hev
    rw [hev] at hrx
    obtain ⟨en, c, ad, hu, _, _, _, _, _, h, _⟩ := rep_own hrx
    have := h _ rfl; subst this
    exact Out.same I hK (run hu) (.v _)
  · rename_i hev
    rw [hev] at hrx
    obtain ⟨en, c, ad, hu, _, _, _, _, h, _⟩ := rep_own hrx
    exact Out.same I (hK c h) (run hu) (.v _)
  · exact hK.elim

theorem out_lenS (I : InvE C st a E) {t ty : TypeId} {x : Operand} {x' : Opd} {cl : Call} (ho : o.op = .call cl) (hc : cl.callee = .builtin .len) (ha : cl.args = #[x]) (hat : cl.argTypes = #[t]) (ht : P.underlying t = some .string) (hx : cOpd x = some x') (hK : opK st.ev st.h st.n K (.lenS x')) : Out P o C st a E K := by
  have hrx := ev_rep I hx
  simp only [opK] at hK
  split at hK
  · rename_i s hev
    rw [hev] at hrx
    have hu := rep_v hrx
    refine Out.same I hK ?_ (.v _)
    simp [execOp, ho, resolve, hc, ha, hat, hu, invoke, builtin, Builtin.len_, run_underlying ht, goInt]
  · exact hK.elim

end Go.Proofs.Yticljphbbdnomaa.VL
