import Derived.Test.YtemdbhdjchkllaaW1Vc
import Derived.Laws.CopyRow
import Derived.Laws.Slices
namespace Go.Proofs.Ytemdbhdjchkllaa.VL
open Go
set_option linter.unusedVariables false
set_option linter.unusedSimpArgs false
set_option linter.unusedSectionVars false
variable [Val]
def cVal1:Value→PV
 | .slice none 0 0=>.sl true []
 | x=>.v x
def cVal:Value→PV
 | .slice none 0 0=>.sl true []
 | .agg cs=>if cs.all Value.oneCell' then .agg (cs.toList.map cVal1) else .v (.agg cs)
 | x=>.v x
def cOpd:Operand→Option Opd
 | .tmp t=>some (.t t)
 | .const v=>some (.c (cVal v))
 | .func f=>some (.c (.clo f [] []))
 | .global _=>none
def cOpds (xs:Array Operand):Option (List Opd):=xs.toList.mapM cOpd
def cOpt:Option Operand→Option (Option Opd)
 | none=>some none
 | some x=>(cOpd x).map some
def isAggT (P:Program) (t:TypeId):Option Bool :=
 match P.underlying t with
 | some (.struct _) | some (.array _ _)=>some true
 | some _=>some false
 | none=>none
def elemT (P:Program) (t:TypeId):Option TypeId:=match P.underlying t with | some (.slice e)=>some e | _=>none
def St.ev (st:St):Opd→PV
 | .t i=>st.t.getD i .dead
 | .c p=>p
theorem cVal1_rep (E:Env) (u:Value):Rep E (cVal1 u) u:=by
 unfold cVal1
 split
 ·exact .emp true none 0 (fun _=>rfl) (fun _=>rfl)
 ·exact .v u
theorem cVal_rep (E:Env) (u:Value):Rep E (cVal u) u:=by
 unfold cVal
 split
 ·exact .emp true none 0 (fun _=>rfl) (fun _=>rfl)
 ·rename_i cs
  split
  ·rename_i hall
   refine .agg _ _ (by simp) ?_ ?_
   ·intro i u hu
    exact Array.all_eq_true_iff_forall_mem.1 hall u (Array.mem_of_getElem? hu)
   ·intro i c u hc hu
    simp only [List.getElem?_map,Option.map_eq_some_iff] at hc
    obtain ⟨u',h1,rfl⟩:=hc
    have:u'=u:=by simpa [hu] using h1.symm
    subst this
    exact cVal1_rep E u'
  ·exact .v _
 ·exact .v u
variable {C:Ctx} {st:St} {a:Act} {E:Env}
theorem ev_rep (I:InvE C st a E) {x:Operand} {y:Opd} (h:cOpd x=some y):Rep E (st.ev y) (a.eval x):=by
 cases x with
 | tmp t =>
  cases h
  simp only [St.ev,Act.eval]
  by_cases ht:t < st.t.length
  ·have ht':t < a.tmps.size:=by rw [I.tsize]; exact ht
   exact I.tmps t _ _ (by simp [ht]) (by simp [ht'])
  ·rw [List.getD_eq_getElem?_getD,List.getElem?_eq_none (Nat.le_of_not_lt ht)]
   exact .dead _
 | const v=>cases h; exact cVal_rep E v
 | global g=>cases h
 | func f =>
  cases h
  exact .clo f [] [] #[] #[] rfl (fun i c u hc=>by simp at hc) rfl (fun i c u hc=>by simp at hc)
theorem evs_rep (I:InvE C st a E):∀ {xs:List Operand} {ys:List Opd},xs.mapM cOpd=some ys→(xs.map a.eval).length=ys.length∧∀ (i:Nat) (c:PV) (u:Value),(ys.map st.ev)[i]?=some c→(xs.map a.eval)[i]?=some u→Rep E c u
 | [],ys,h=>by
  simp at h; subst h; simp
 | x::xs,ys,h=>by
  simp only [List.mapM_cons,Option.bind_eq_bind,Option.bind_eq_some_iff,Option.pure_def,Option.some.injEq] at h
  obtain ⟨y,hy,ys',hys,rfl⟩:=h
  obtain ⟨h1,h2⟩:=evs_rep I hys
  refine ⟨by simpa using h1,fun i c u hc hu=>?_⟩
  cases i with
  | zero=>simp at hc hu; subst hc; subst hu; exact ev_rep I hy
  | succ i=>simp only [List.map_cons,List.getElem?_cons_succ] at hc hu; exact h2 i c u hc hu
theorem rep_v {x u:Value} (h:Rep E (.v x) u):u=x:=by cases h; rfl
theorem rep_agg {cs:List PV} {u:Value} (h:Rep E (.agg cs) u):∃ vs,u=.agg vs∧vs.size=cs.length∧(∀ (i:Nat) (u:Value),vs[i]?=some u→u.oneCell'=true)∧∀ (i:Nat) (c:PV) (u:Value),cs[i]?=some c→vs[i]?=some u→Rep E c u:=by
 cases h with | agg _ vs hl ho h=>exact ⟨vs,rfl,hl,ho,h⟩
def de:PV→PV
 | .sy x=>.v x.eval
 | p=>p
theorem de_rep {p:PV} {u:Value} (h:Rep E p u):Rep E (de p) u:=by
 by_cases hp:∃ x,p=.sy x
 ·obtain ⟨x,rfl⟩:=hp
  cases h
  exact .v _
 ·have:de p=p:=by
   cases p<;>first | rfl | exact absurd ⟨_,rfl⟩ hp
  rw [this]; exact h
theorem rep_sy {x:SX} {u:Value} (h:Rep E (.sy x) u):u=x.eval:=by cases h; rfl
theorem rep_toSX {p:PV} {u:Value} {x:SX} (h:Rep E p u) (hx:toSX p=some x):u=x.eval:=by
 unfold toSX at hx
 split at hx<;>first
  | (cases hx; exact rep_v h)
  | (cases hx; exact rep_sy h)
  | cases hx
theorem guardSX_spec {x y:SX} (h:guardSX x=some y):x=y∧x.ty.isSome=true:=by
 unfold guardSX at h
 split at h
 ·cases h; exact ⟨rfl,by assumption⟩
 ·cases h
theorem bin_eval {op:BinOp} {x y:SX} (h:(SX.bin op x y).ty.isSome=true):binW op x.eval y.eval=some (SX.bin op x y).eval:=by
 obtain ⟨t,ht⟩:=Option.isSome_iff_exists.1 h
 simp only [SX.ty] at ht
 cases hx:x.ty with
 | none=>rw [hx] at ht; cases ht
 | some tx=>cases hy:y.ty with
  | none=>rw [hx,hy] at ht; cases tx<;>cases ht
  | some ty =>
   rw [hx,hy] at ht
   obtain ⟨w,h1,h2⟩:=ty_bin ht (SX.has hx) (SX.has hy) rfl
   simp only [SX.eval,h1,Option.getD_some]
theorem un_eval {op:UnOp} {x:SX} (h:(SX.un op x).ty.isSome=true):unW op x.eval=some (SX.un op x).eval:=by
 obtain ⟨t,ht⟩:=Option.isSome_iff_exists.1 h
 simp only [SX.ty] at ht
 cases hx:x.ty with
 | none=>rw [hx] at ht; cases ht
 | some tx =>
  rw [hx] at ht
  obtain ⟨w,h1,h2⟩:=ty_un ht (SX.has hx)
  simp only [SX.eval,h1,Option.getD_some]
theorem binS_spec {op:BinOp} {p q:PV} {z:SX} {u v:Value} (h:binS op p q=some z) (hp:Rep E p u) (hq:Rep E q v):binW op u v=some z.eval∧z.ty.isSome=true:=by
 unfold binS at h
 split at h
 ·rename_i x y hx hy
  obtain ⟨rfl,h2⟩:=guardSX_spec h
  rw [rep_toSX hp hx,rep_toSX hq hy]
  exact ⟨bin_eval h2,h2⟩
 ·cases h
theorem beqS_spec {neg:Bool} {p q:PV} {z:SX} {u v:Value} (h:beqS neg p q=some z) (hp:Rep E p u) (hq:Rep E q v):∃ a b,u=.bool a∧v=.bool b∧z.eval=.bool (if neg then !(a==b) else a==b)∧z.ty.isSome=true:=by
 unfold beqS at h
 split at h
 ·rename_i x y hx hy
  obtain ⟨rfl,h2⟩:=guardSX_spec h
  have h3:=h2
  simp only [SX.ty] at h3
  split at h3
  ·rename_i hh
   obtain ⟨a,ha⟩:=SX.has hh.1
   obtain ⟨b,hb⟩:=SX.has hh.2
   rw [rep_toSX hp hx,rep_toSX hq hy]
   exact ⟨a,b,ha,hb,by simp only [SX.eval,ha,hb],h2⟩
  ·cases h3
 ·cases h
theorem sx_bool {x:SX} (h:x.ty=some .b):∃ t,x.eval=.bool t:=SX.has h
theorem rep_cells {p:PV} {u:Value} (h:Rep E p u) (hs:p.stor=true):u.cells.size=p.cells.length∧(∀ (i:Nat) (x:Value),u.cells[i]?=some x→x.oneCell'=true) ∧
  ∀ (i:Nat) (c:PV) (x:Value),p.cells[i]?=some c→u.cells[i]?=some x→Rep E c x:=by
 have one:∀ {p:PV} {u:Value},Rep E p u→p.cells=[p]→u.cells=#[u]→u.oneCell'=true→u.cells.size=p.cells.length∧(∀ (i:Nat) (x:Value),u.cells[i]?=some x→x.oneCell'=true) ∧
  ∀ (i:Nat) (c:PV) (x:Value),p.cells[i]?=some c→u.cells[i]?=some x→Rep E c x:=by
  intro p u h h1 h2 h3
  rw [h1,h2]
  refine ⟨rfl,?_,?_⟩
  ·intro i x hx
   cases i with
   | zero=>simp at hx; subst hx; exact h3
   | succ i=>simp at hx
  ·intro i c x hc hx
   cases i with
   | zero=>simp at hc hx; subst hc; subst hx; exact h
   | succ i=>simp at hx
 cases h with
 | v x =>
  have h1:u.oneCell'=true:=hs
  exact one (.v u) rfl (by cases u<;>first | rfl | simp [Value.oneCell'] at h1) h1
 | agg cs vs hl ho h=>exact ⟨hl,ho,h⟩
 | tup cs vs hl h=>cases hs
 | emp c a cap hc hn=>exact one (.emp c a cap hc hn) rfl rfl rfl
 | sl c es rb off cap sz U hne hS hc hcap hsz0 hsz hm ho h=>exact one (.sl c es rb off cap sz U hne hS hc hcap hsz0 hsz hm ho h) rfl rfl rfl
 | own b s off len cap en c a hb ha hn hlen hc htot hcap=>exact one (.own b s off len cap en c a hb ha hn hlen hc htot hcap) rfl rfl rfl
 | optr b s i off en hb=>exact one (.optr b s i off en hb) rfl rfl rfl
 | sptr cs rb off U hS hm ho h=>exact one (.sptr cs rb off U hS hm ho h) rfl rfl rfl
 | clo f fs cs us vs hk g hl h=>exact one (.clo f fs cs us vs hk g hl h) rfl rfl rfl
 | mp b s en hb=>exact one (.mp b s en hb) rfl rfl rfl
 | sy x =>
  have h1:x.eval.oneCell'=true:=SX.one hs
  exact one (.sy x) rfl (by generalize x.eval=u at h1; cases u<;>first | rfl | simp [Value.oneCell'] at h1) h1
 | dead u=>cases hs
theorem ldv_rep {g:Bool} {m:Nat} {e p:PV} {off:Nat} (hl:ldv g m e off=some p) {X:Nat→Value}
  (hX:∀ (j:Nat) (c:PV),e.cells[j]?=some c→Rep E c (X j)) (hX1:∀ j,(X j).oneCell'=true) :
  off+m≤e.cells.length∧(g=false→m=1)∧Rep E p (if g then .agg ((List.range m).map fun j=>X (off+j)).toArray else X off):=by
 have aggOf:∀ {cs:List PV},(∀ (j:Nat) (c:PV),cs[j]?=some c→Rep E c (X (off+j)))→Rep E (.agg cs) (.agg ((List.range cs.length).map fun j=>X (off+j)).toArray):=by
  intro cs hcs
  refine .agg _ _ (by simp) ?_ ?_
  ·intro i u hu
   have hlt:i < cs.length:=by have:=(Array.getElem?_eq_some_iff.1 hu).1; simpa using this
   simp [hlt] at hu
   subst hu; exact hX1 _
  ·intro i c u hc hu
   have hlt:i < cs.length:=(List.getElem?_eq_some_iff.1 hc).1
   simp [hlt] at hu
   subst hu; exact hcs i c hc
 unfold ldv at hl
 split at hl
 ·rename_i hw
  obtain ⟨rfl,hm,hg⟩:=hw
  cases hl
  cases e with
  | agg cs =>
   have hg':g=true:=hg.symm
   subst hg'
   simp only [PV.cells] at hm hX
   subst hm
   exact ⟨by simp [PV.cells],by simp,by simpa using aggOf (cs:=cs) (fun j c hc=>by simpa using hX j c hc)⟩
  | _ =>
   have hg':g=false:=hg.symm
   subst hg'
   simp only [PV.cells,List.length_cons,List.length_nil] at hm
   subst hm
   exact ⟨by simp [PV.cells],by simp,by simpa using hX 0 _ (by simp [PV.cells])⟩
 ·split at hl
  ·rename_i hle
   cases g with
   | true =>
    simp only [if_true,Option.some.injEq] at hl
    subst hl
    have:=aggOf (cs:=(e.cells.drop off).take m) (fun j c hc=>by
     rw [List.getElem?_take] at hc
     split at hc
     ·rw [List.getElem?_drop] at hc; exact hX _ _ hc
     ·cases hc)
    have hlen:((e.cells.drop off).take m).length=m:=by simp; omega
    rw [hlen] at this
    exact ⟨hle,by simp,this⟩
   | false =>
    simp only [Bool.false_eq_true,if_false] at hl
    split at hl
    ·rename_i hm
     subst hm
     exact ⟨hle,fun _=>rfl,by simpa using hX _ _ hl⟩
    ·cases hl
  ·cases hl
end Go.Proofs.Ytemdbhdjchkllaa.VL
