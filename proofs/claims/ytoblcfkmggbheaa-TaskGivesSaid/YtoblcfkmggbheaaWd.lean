/- A contract told of symbols holds whatever they stand for. -/
import Derived.Test.YtoblcfkmggbheaaVz
namespace Go.Proofs.Ytoblcfkmggbheaa.VL
open Go
set_option linter.unusedVariables false

mutual
/-- The symbols told. -/
def PV.num [Val] : PV → PV
  | .sy x => .v x.eval
  | .agg cs => .agg (numL cs)
  | .tup cs => .tup (numL cs)
  | .sl c es => .sl c (numL es)
  | .sptr cs => .sptr (numL cs)
  | .clo f fs cs => .clo f (numL fs) (numL cs)
  | p => p
def numL [Val] : List PV → List PV
  | [] => []
  | p :: r => p.num :: numL r
end
theorem numL_map [Val] : ∀ l : List PV, numL l = l.map PV.num
  | [] => rfl
  | p :: r => by rw [numL, numL_map r]; rfl
theorem numL_get [Val] {l : List PV} {i : Nat} {c : PV} (h : (numL l)[i]? = some c) : ∃ d, l[i]? = some d ∧ c = d.num := by
  rw [numL_map, List.getElem?_map, Option.map_eq_some_iff] at h
  obtain ⟨d, h1, h2⟩ := h
  exact ⟨d, h1, h2.symm⟩
theorem numL_get' [Val] {l : List PV} {i : Nat} {d : PV} (h : l[i]? = some d) : (numL l)[i]? = some d.num := by
  rw [numL_map, List.getElem?_map, h]; rfl
theorem numL_len [Val] (l : List PV) : (numL l).length = l.length := by rw [numL_map, List.length_map]
theorem num_cells [Val] (p : PV) : p.num.cells = numL p.cells := by
  cases p <;> simp [PV.num, PV.cells, numL]
theorem num_cells_len [Val] (p : PV) : p.num.cells.length = p.cells.length := by rw [num_cells, numL_len]

theorem rep_num {V V' : Val} {E : Env} {p : PV} {u : Value} (h : @Rep V E p u) : @Rep V' E (@PV.num V p) u := by
  induction h with
  | v x => exact @Rep.v V' E x
  | agg cs vs hl ho _ ih =>
    show @Rep V' E (.agg (@numL V cs)) _
    exact @Rep.agg V' E _ vs (by rw [@numL_len V, hl]) ho fun i c u hc hu => by obtain ⟨d, hd, rfl⟩ := @numL_get V _ _ _ hc; exact ih i d u hd hu
  | tup cs vs hl _ ih =>
    show @Rep V' E (.tup (@numL V cs)) _
    exact @Rep.tup V' E _ vs (by rw [@numL_len V, hl]) fun i c u hc hu => by obtain ⟨d, hd, rfl⟩ := @numL_get V _ _ _ hc; exact ih i d u hd hu
  | emp c a cap hc hn => exact @Rep.emp V' E c a cap hc hn
  | sl c es rb off cap sz U hne hS hc hcap hsz0 hsz hm ho _ ih =>
    show @Rep V' E (.sl c (@numL V es)) _
    rw [← @numL_len V es]
    refine @Rep.sl V' E c _ rb off cap sz U (by rw [@numL_map V]; simpa using hne) hS (by rw [@numL_len V]; exact hc) (by rw [@numL_len V]; exact hcap) hsz0 (fun i e he => ?_) (fun i e j c he hj => ?_) ho (fun i e j c he hj => ?_)
    · obtain ⟨d, hd, rfl⟩ := @numL_get V _ _ _ he; rw [@num_cells_len V]; exact hsz i d hd
    · obtain ⟨d, hd, rfl⟩ := @numL_get V _ _ _ he
      rw [@num_cells V] at hj
      obtain ⟨q, hq, rfl⟩ := @numL_get V _ _ _ hj
      exact hm i d j q hd hq
    · obtain ⟨d, hd, rfl⟩ := @numL_get V _ _ _ he
      rw [@num_cells V] at hj
      obtain ⟨q, hq, rfl⟩ := @numL_get V _ _ _ hj
      exact ih i d j q hd hq
  | own b s off len cap en c a hb ha hn hlen hc htot hcap => exact @Rep.own V' E b s off len cap en c a hb ha hn hlen hc htot hcap
  | optr b s i off en hb => exact @Rep.optr V' E b s i off en hb
  | sptr cs rb off U hS hm ho _ ih =>
    show @Rep V' E (.sptr (@numL V cs)) _
    refine @Rep.sptr V' E _ rb off U hS (fun j c hj => ?_) ho fun j c hj => ?_
    · obtain ⟨d, hd, rfl⟩ := @numL_get V _ _ _ hj; exact hm j d hd
    · obtain ⟨d, hd, rfl⟩ := @numL_get V _ _ _ hj; exact ih j d hd
  | clo f fs cs us vs hk _ hl _ ih1 ih2 =>
    show @Rep V' E (.clo f (@numL V fs) (@numL V cs)) _
    refine @Rep.clo V' E f _ _ us vs (by rw [@numL_len V, hk]) (fun i c u hc hu => ?_) (by rw [@numL_len V, hl]) fun i c u hc hu => ?_
    · obtain ⟨d, hd, rfl⟩ := @numL_get V _ _ _ hc; exact ih1 i d u hd hu
    · obtain ⟨d, hd, rfl⟩ := @numL_get V _ _ _ hc; exact ih2 i d u hd hu
  | mp b s en hb => exact @Rep.mp V' E b s en hb
  | sy x => exact @Rep.v V' E _
  | dead u => exact @Rep.dead V' E u

theorem rep_unnum {V V' : Val} {E : Env} {q : PV} {u : Value} (h : @Rep V' E q u) : ∀ {p : PV}, q = @PV.num V p → @Rep V E p u := by
  induction h with
  | v x =>
    intro p e
    cases p <;> simp [PV.num] at e
    · subst e; exact @Rep.v V E _
    · rw [e]; exact @Rep.sy V E _
  | agg cs vs hl ho _ ih =>
    intro p e
    cases p <;> simp [PV.num] at e
    subst e
    exact @Rep.agg V E _ vs (by rw [hl, @numL_len V]) ho fun i c u hc hu => ih i _ u (@numL_get' V _ _ _ hc) hu rfl
  | tup cs vs hl _ ih =>
    intro p e
    cases p <;> simp [PV.num] at e
    subst e
    exact @Rep.tup V E _ vs (by rw [hl, @numL_len V]) fun i c u hc hu => ih i _ u (@numL_get' V _ _ _ hc) hu rfl
  | emp c a cap hc hn =>
    intro p e
    cases p <;> simp [PV.num, @numL_map V] at e
    obtain ⟨rfl, rfl⟩ := e
    exact @Rep.emp V E _ a cap hc hn
  | sl c es rb off cap sz U hne hS hc hcap hsz0 hsz hm ho _ ih =>
    intro p e
    cases p <;> simp [PV.num] at e
    obtain ⟨rfl, rfl⟩ := e
    rw [@numL_len V]
    refine @Rep.sl V E _ _ rb off cap sz U (fun h => hne (by rw [h]; rfl)) hS (by rw [← @numL_len V]; exact hc) (by rw [← @numL_len V]; exact hcap) hsz0 (fun i e he => ?_) (fun i e j c he hj => ?_) ho (fun i e j c he hj => ?_)
    · rw [← @num_cells_len V]; exact hsz i _ (@numL_get' V _ _ _ he)
    · exact hm i _ j _ (@numL_get' V _ _ _ he) (by rw [@num_cells V]; exact @numL_get' V _ _ _ hj)
    · exact ih i _ j _ (@numL_get' V _ _ _ he) (by rw [@num_cells V]; exact @numL_get' V _ _ _ hj) rfl
  | own b s off len cap en c a hb ha hn hlen hc htot hcap =>
    intro p e
    cases p <;> simp [PV.num] at e
    obtain ⟨rfl, rfl, rfl, rfl, rfl, rfl⟩ := e
    exact @Rep.own V E _ _ _ _ _ en c a hb ha hn hlen hc htot hcap
  | optr b s i off en hb =>
    intro p e
    cases p <;> simp [PV.num] at e
    obtain ⟨rfl, rfl, rfl, rfl⟩ := e
    exact @Rep.optr V E _ _ _ _ en hb
  | sptr cs rb off U hS hm ho _ ih =>
    intro p e
    cases p <;> simp [PV.num] at e
    subst e
    exact @Rep.sptr V E _ rb off U hS (fun j c hj => hm j _ (@numL_get' V _ _ _ hj)) ho fun j c hj => ih j _ (@numL_get' V _ _ _ hj) rfl
  | clo f fs cs us vs hk _ hl _ ih1 ih2 =>
    intro p e
    cases p <;> simp [PV.num] at e
    obtain ⟨rfl, rfl, rfl⟩ := e
    exact @Rep.clo V E f _ _ us vs (by rw [hk, @numL_len V]) (fun i c u hc hu => ih1 i _ u (@numL_get' V _ _ _ hc) hu rfl) (by rw [hl, @numL_len V]) fun i c u hc hu => ih2 i _ u (@numL_get' V _ _ _ hc) hu rfl
  | mp b s en hb =>
    intro p e
    cases p <;> simp [PV.num] at e
    obtain ⟨rfl, rfl⟩ := e
    exact @Rep.mp V E _ _ en hb
  | sy x =>
    intro p e
    cases p <;> simp [PV.num] at e
  | dead u =>
    intro p e
    cases p <;> simp [PV.num] at e
    exact @Rep.dead V E u
/-- The same, whatever stands for it. -/
theorem rep_same {V V' : Val} {E : Env} {p q : PV} {u : Value} (e : @PV.num V p = @PV.num V' q) (h : @Rep V E p u) : @Rep V' E q u :=
  rep_unnum (V' := V) (rep_num (V' := V) h) e

theorem invE_val {V V' : Val} {C : Ctx} {n : Nat} {a : Act} {E : Env} (h : @InvE V C ⟨[], [none], n⟩ a E) : @InvE V' C ⟨[], [none], n⟩ a E := by
  cases h with
  | mk good since touch defers tsize tmps =>
    cases good with
    | mk free blk inj stay =>
      refine @InvE.mk V' C _ a E (@Good.mk V' E _ _ free (fun b s k hb => ?_) inj stay) since touch defers tsize fun i p u hp => by simp at hp
      match b with
      | 0 => simp at hb
      | b + 1 => simp at hb

/-- A CONTRACT TOLD OF SYMBOLS, OF WHAT THEY STAND FOR. -/
theorem vpure_num {V V' : Val} {P : Program} {f : Nat} {args args' : List PV} {r r' : PV} (h : @VPure V P f args r) (ha : @numL V args = @numL V' args') (hr : @PV.num V r = @PV.num V' r') (h1 : closedL args' = true) (h2 : closed r' = true) : @VPure V' P f args' r' := by
  refine ⟨h1, h2, h.2.2.1, fun W S ents vals a b c d => ?_⟩
  have hl : args.length = args'.length := by rw [← @numL_len V, ha, numL_len]
  have b' : ∀ (V V' : Val) {C : Ctx} {E : Env} {n : Nat}, @InvE V C ⟨[], slots [] none, n⟩ emptyAct E → @InvE V' C ⟨[], slots [] none, n⟩ emptyAct E := fun V V' _ _ _ h => invE_val h
  refine (h.2.2.2 W S ents vals a (b' V' V b) (by omega) fun i p u hp hu => ?_).mono ?_
  · have hi : i < args'.length := by have := (List.getElem?_eq_some_iff.1 hp).1; omega
    have hq : args'[i]? = some args'[i] := List.getElem?_eq_getElem hi
    refine rep_same ?_ (d i _ u hq hu)
    have e1 := @numL_get' V _ _ _ hp
    have e2 := @numL_get' V' _ _ _ hq
    rw [ha, e2] at e1
    exact (Option.some.inj e1)
  · rintro e W' ⟨v, x, L', N, σ', S', g1, rfl, g3, g4, g5⟩
    match L', g3 with
    | [], _ =>
      refine ⟨v, r', [], none, σ', S', g1, rfl, rfl, ?_, rep_same hr g5⟩
      refine b' V V' ?_
      exact (@InvE.kill V _ _ _ _ g4 0)
end Go.Proofs.Ytoblcfkmggbheaa.VL
