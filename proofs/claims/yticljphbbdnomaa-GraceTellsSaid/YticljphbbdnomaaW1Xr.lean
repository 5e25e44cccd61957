import Derived.Test.YticljphbbdnomaaW1Xq
import Derived.Test.YticljphbbdnomaaW1Vz
namespace Go.Proofs.Yticljphbbdnomaa.VL
open Go Go.ChangeShapes Go.WideShapes Go.ChangeAt Go.RowKit
set_option linter.unusedVariables false
set_option linter.unusedSimpArgs false
set_option linter.unusedSectionVars false
variable [Val]
def InK (k:IntKind) (n:Int):Prop:=k.min≤n∧n≤k.max
def WfD:(t:TT)→t.den→Prop
 | .i k,n=>InK k n
 | .b,_=>True
 | .s,x=>x.size≤maxLen
 | .sl t,l=>l.length≤maxLen∧∀ v ∈ l,WfD t v
 | .p x y,v=>WfD x v.1∧WfD y v.2
 | .ar t,l=>∀ v ∈ l,WfD t v
def WfF:(f:Fm)→DT f.den→Prop
 | .v t,v=>WfD t v
 | .co f r,v=>WfF f (dFst f.den r.den v)∧WfF r (dSnd f.den r.den v)
 | _,_=>True
def nestT:List TT→Option TT
 | []=>none
 | [t]=>some t
 | t::r=>match nestT r with | some u=>some (.p t u) | none=>none
def fieldsW (g:TypeId→Option (List TT)):List Field→Option (List TT)
 | []=>some []
 | f::r=>match g f.type,fieldsW g r with | some a,some b=>some (a++b) | _,_=>none
def cellsT (P:Program):Nat→TypeId→Option (List TT)
 | 0,_=>none
 | d+1,t=>match P.underlying t with
  | some .bool=>some [.b]
  | some (.int k)=>some [.i k]
  | some .string=>some [.s]
  | some (.slice e)=>(match cellsT P d e with | some ts=>(match nestT ts with | some u=>some [.sl u] | none=>none) | none=>none)
  | some (.struct fs)=>fieldsW (cellsT P d) fs.toList
  | _=>none
inductive CellsD:List TT→List PV→Prop
 | nil:CellsD [] []
 | cons {t:TT} {ts:List TT} {p:PV} {ps:List PV} (v:t.den) (ho:∀ x y,t≠.p x y) (ha:∀ x,t≠.ar x) (hw:WfD t v) (h:Lp p (enc t v)) (r:CellsD ts ps):CellsD (t::ts) (p::ps)
theorem CellsD.append {a b:List TT} {p q:List PV} (h:CellsD a p) (k:CellsD b q):CellsD (a++b) (p++q):=by
 induction h with
 | nil=>exact k
 | cons v ho ha hw h r ih=>exact .cons v ho ha hw h ih
theorem enc_cells_one {t:TT} (v:t.den) (ho:∀ x y,t≠.p x y) (ha:∀ x,t≠.ar x):(enc t v).cells=[enc t v]:=by
 cases t<;>first | rfl | exact absurd rfl (ho _ _) | exact absurd rfl (ha _)
theorem nestT_cons (t t':TT) (r:List TT):nestT (t::t'::r)=match nestT (t'::r) with | some u=>some (.p t u) | none=>none:=rfl
theorem cells_nest:∀ {ts:List TT} {ps:List PV} {u:TT},CellsD ts ps→nestT ts=some u→∃ v:u.den,WfD u v∧L2 ps (enc u v).cells
 | [],_,u,_,hn=>by cases hn
 | [t],_,u,.cons v ho ha hw h .nil,hn=>by
  cases hn
  exact ⟨v,hw,by rw [enc_cells_one v ho ha]; exact .cons h .nil⟩
 | t::t'::r,_,u,.cons v ho ha hw h hr,hn=>by
  rw [nestT_cons] at hn
  split at hn
  ·rename_i w hw2
   cases hn
   obtain ⟨v2,g1,g2⟩:=cells_nest hr hw2
   refine ⟨(v,v2),⟨hw,g1⟩,?_⟩
   have e:(enc (.p t w) (v,v2)).cells=(enc t v).cells++(enc w v2).cells:=rfl
   rw [e,enc_cells_one v ho ha]
   exact .cons h g2
  ·cases hn
theorem fit_cells {P:Program}:∀ (d:Nat) (t:TypeId) (p:PV) (ts:List TT),Fit P t p→cellsT P d t=some ts→CellsD ts p.cells
 | 0,t,p,ts,_,h=>by cases h
 | d+1,t,p,ts,hF,h=>by
  cases hF with
  | bool _ b hu =>
   simp only [cellsT,hu] at h
   cases h
   exact .cons b (by intros; simp) (by intros; simp) trivial (Lp.refl _) .nil
  | int _ k n hu hw =>
   simp only [cellsT,hu] at h
   cases h
   refine .cons (t:=.i k) n (by intros; simp) (by intros; simp) ?_ (Lp.refl _) .nil
   have hw:(Lit.int k n).wf=true:=hw
   simpa [Lit.wf,WfD,InK] using hw
  | str _ s hu hs =>
   simp only [cellsT,hu] at h
   cases h
   exact .cons (t:=.s) s (by intros; simp) (by intros; simp) hs (Lp.refl _) .nil
  | nil _ e hu =>
   simp only [cellsT,hu] at h
   split at h
   ·split at h
    ·cases h
     rename_i u _
     exact .cons (t:=.sl u) ([]:List u.den) (by intros; simp) (by intros; simp) ⟨Nat.zero_le _,fun v hv=>by cases hv⟩ (lp_sl .nil (by simp)) .nil
    ·cases h
   ·cases h
  | sl _ e es hu hs he =>
   simp only [cellsT,hu] at h
   split at h
   ·rename_i us hus
    split at h
    ·cases h
     rename_i u hn
     have key:∀ (es:List PV),(∀ q ∈ es,Fit P e q)→∃ l:List u.den,l.length=es.length∧(∀ v ∈ l,WfD u v)∧R2 es (l.map (enc u)):=by
      intro es
      induction es with
      | nil=>intro _; exact ⟨[],rfl,(fun v hv=>by cases hv),.nil⟩
      | cons q r ih =>
       intro hq
       obtain ⟨l,h1,h2,h3⟩:=ih fun x hx=>hq x (List.mem_cons_of_mem _ hx)
       obtain ⟨v,g1,g2⟩:=cells_nest (fit_cells d e q us (hq q List.mem_cons_self) hus) hn
       refine ⟨v::l,by simp [h1],?_,.cons g2 h3⟩
       intro w hw
       rcases List.mem_cons.1 hw with rfl | hw
       ·exact g1
       ·exact h2 w hw
     obtain ⟨l,h1,h2,h3⟩:=key es he
     exact .cons (t:=.sl u) l (by intros; simp) (by intros; simp) ⟨by rw [h1]; exact hs,h2⟩ (lp_sl h3 (by simp)) .nil
    ·cases h
   ·cases h
  | struct _ fs ps hu hl hp =>
   simp only [cellsT,hu] at h
   have key:∀ (fs:List Field) (ps:List PV) (ts:List TT),ps.length=fs.length→(∀ (i:Nat) (f:Field) (p:PV),fs[i]?=some f→ps[i]?=some p→Fit P f.type p)→fieldsW (cellsT P d) fs=some ts→CellsD ts (ps.flatMap PV.cells):=by
    intro fs
    induction fs with
    | nil =>
     intro ps ts hl _ h
     cases h
     cases ps with
     | nil=>exact .nil
     | cons=>cases hl
    | cons f r ih =>
     intro ps ts hl hp h
     cases ps with
     | nil=>cases hl
     | cons p ps =>
      simp only [fieldsW] at h
      split at h
      ·rename_i a b ha hb
       cases h
       rw [List.flatMap_cons]
       exact (fit_cells d f.type p a (hp 0 f p rfl rfl) ha).append (ih ps b (by simpa using hl) (fun i f p q1 q2=>hp (i+1) f p (by simpa using q1) (by simpa using q2)) hb)
      ·cases h
   exact key fs.toList ps ts (by simpa using hl) (fun i f p q1 q2=>hp i f p (by simpa using q1) q2) h
def aggB (P:Program) (t:TypeId):Bool:=match P.underlying t with | some (.struct _)=>true | _=>false
def isP:TT→Bool
 | .p _ _=>true
 | _=>false
def eqTT:TT→TT→Bool
 | .i k,.i k'=>ikB k k'
 | .b,.b=>true
 | .s,.s=>true
 | .sl t,.sl u=>eqTT t u
 | .p x y,.p z w=>eqTT x z&&eqTT y w
 | .ar t,.ar u=>eqTT t u
 | _,_=>false
theorem eqTT_eq:∀ {t u:TT},eqTT t u=true→t=u
 | .i k,.i k',h=>by simp only [eqTT] at h; rw [ikB_eq h]
 | .b,.b,_=>rfl
 | .s,.s,_=>rfl
 | .sl t,.sl u,h=>by simp only [eqTT] at h; rw [eqTT_eq h]
 | .p x y,.p z w,h=>by simp only [eqTT,Bool.and_eq_true] at h; rw [eqTT_eq h.1,eqTT_eq h.2]
 | .ar t,.ar u,h=>by simp only [eqTT] at h; rw [eqTT_eq h]
 | .i _,.b,h | .i _,.s,h | .i _,.sl _,h | .i _,.p _ _,h | .i _,.ar _,h=>by cases h
 | .b,.i _,h | .b,.s,h | .b,.sl _,h | .b,.p _ _,h | .b,.ar _,h=>by cases h
 | .s,.i _,h | .s,.b,h | .s,.sl _,h | .s,.p _ _,h | .s,.ar _,h=>by cases h
 | .sl _,.i _,h | .sl _,.b,h | .sl _,.s,h | .sl _,.p _ _,h | .sl _,.ar _,h=>by cases h
 | .p _ _,.i _,h | .p _ _,.b,h | .p _ _,.s,h | .p _ _,.sl _,h | .p _ _,.ar _,h=>by cases h
 | .ar _,.i _,h | .ar _,.b,h | .ar _,.s,h | .ar _,.sl _,h | .ar _,.p _ _,h=>by cases h
def oneT (P:Program) (d:Nat) (t:TypeId) (u:TT):Bool:=match cellsT P d t with
 | some ts=>(match nestT ts with | some u'=>eqTT u' u&&(aggB P t==isP u) | none=>false)
 | none=>false
theorem fit_one {P:Program} {d:Nat} {t:TypeId} {u:TT} {p:PV} (hF:Fit P t p) (h:oneT P d t u=true):∃ v:u.den,WfD u v∧Lp p (enc u v):=by
 unfold oneT at h
 split at h
 ·rename_i ts hts
  split at h
  ·rename_i u' hn
   simp only [Bool.and_eq_true,beq_iff_eq] at h
   obtain ⟨h1,h2⟩:=h
   rw [eqTT_eq h1] at hn
   have hc:=fit_cells d t p ts hF hts
   obtain ⟨v,g1,g2⟩:=cells_nest hc hn
   refine ⟨v,g1,?_⟩
   cases hF with
   | struct _ fs ps hu hl hp =>
    simp only [aggB,hu] at h2
    cases u<;>simp only [isP,reduceCtorEq] at h2
    exact lp_agg g2
   | bool _ b hu =>
    simp only [aggB,hu] at h2
    have ho:∀ x y,u≠.p x y:=fun x y e=>by rw [e] at h2; cases h2
    have ha:∀ x,u≠.ar x:=fun x e=>by
     subst e
     cases d<;>simp [cellsT,hu] at hts
     subst hts; cases hn
    rw [enc_cells_one v ho ha] at g2
    cases g2 with | cons h t=>exact h
   | int _ k n hu hw =>
    simp only [aggB,hu] at h2
    have ho:∀ x y,u≠.p x y:=fun x y e=>by rw [e] at h2; cases h2
    have ha:∀ x,u≠.ar x:=fun x e=>by
     subst e
     cases d<;>simp [cellsT,hu] at hts
     subst hts; cases hn
    rw [enc_cells_one v ho ha] at g2
    cases g2 with | cons h t=>exact h
   | str _ s hu hs =>
    simp only [aggB,hu] at h2
    have ho:∀ x y,u≠.p x y:=fun x y e=>by rw [e] at h2; cases h2
    have ha:∀ x,u≠.ar x:=fun x e=>by
     subst e
     cases d<;>simp [cellsT,hu] at hts
     subst hts; cases hn
    rw [enc_cells_one v ho ha] at g2
    cases g2 with | cons h t=>exact h
   | nil _ e hu =>
    have:∃ w,u=.sl w:=by
     cases d with
     | zero=>cases hts
     | succ d =>
      simp only [cellsT,hu] at hts
      split at hts
      ·split at hts
       ·cases hts; cases hn; exact ⟨_,rfl⟩
       ·cases hts
      ·cases hts
    obtain ⟨w,rfl⟩:=this
    rw [enc_cells_one v (by intros; simp) (by intros; simp)] at g2
    cases g2 with | cons h t=>exact h
   | sl _ e es hu hs he =>
    have:∃ w,u=.sl w:=by
     cases d with
     | zero=>cases hts
     | succ d =>
      simp only [cellsT,hu] at hts
      split at hts
      ·split at hts
       ·cases hts; cases hn; exact ⟨_,rfl⟩
       ·cases hts
      ·cases hts
    obtain ⟨w,rfl⟩:=this
    rw [enc_cells_one v (by intros; simp) (by intros; simp)] at g2
    cases g2 with | cons h t=>exact h
  ·cases h
 ·cases h
def parsT (P:Program) (d:Nat):List TypeId→Fm→Bool
 | [],.no=>true
 | t::r,.co (.v u) f=>(oneT P d t u&&(u.fine&&plainT P d t))&&parsT P d r f
 | _,_=>false
theorem args_data {H:Type} {enc:TypeId×Value→H} {P:Program} {W:World} {d b0:Nat} {r:Reach}:∀ {ts:List TypeId} {ins:Fm} {vs:List Value} {ds:List (DataW H)} {ps:List MemPlace},parsT P d ts ins=true →
  (∀ (j:Nat) t v,ts[j]?=some t→vs[j]?=some v→Value.okWide P W r b0 t v)→DataW.TrodAll enc P W 0 (fun _=>true) true ts vs ds ps →
  ∃ v:DT ins.den,WfF ins v∧vs.length=(toPVL (expF e0 ins v)).length∧∀ (i:Nat) (p:PV) (u:Value),(toPVL (expF e0 ins v))[i]?=some p→vs[i]?=some u→Rep (begE W) p u
 | [],ins,vs,ds,ps,hp,hv,hT=>by
  cases ins<;>simp only [parsT,reduceCtorEq] at hp
  cases vs with
  | nil=>exact ⟨(),trivial,rfl,by intro i p u h; simp [expF,toPVL] at h⟩
  | cons v vs=>cases ds<;>exact hT.elim
 | t::r',ins,vs,ds,ps,hp,hv,hT=>by
  match ins,hp with
  | .co (.v u) f,hp =>
   simp only [parsT,Bool.and_eq_true] at hp
   obtain ⟨⟨h1,h2,h3⟩,h4⟩:=hp
   match vs,ds,hT with
   | v::vs,d0::ds,hT =>
    obtain ⟨p,q,g1,g2,rfl⟩:=hT
    obtain ⟨x,hx1,hx2⟩:=read_arg h3 (hv 0 t v rfl rfl) g1
    obtain ⟨y,hy1,hy2⟩:=fit_one hx1 h1
    obtain ⟨z,hz1,hz2,hz3⟩:=args_data h4 (fun j t v hj hv'=>hv (j+1) t v (by simpa using hj) (by simpa using hv')) g2
    refine ⟨dMk (Fm.v u).den f.den y z,?_,?_,?_⟩
    ·simp only [WfF,dFst_mk,dSnd_mk]
     exact ⟨hy1,hz1⟩
    ·simp only [expF,dFst_mk,dSnd_mk,toPVL_append,List.length_append,toPVL,List.length_cons,List.length_nil,hz2]
     omega
    ·intro i p u' hp' hu'
     simp only [expF,dFst_mk,dSnd_mk,toPVL_append,toPVL,List.cons_append,List.nil_append] at hp'
     rw [toPV_expand y h2] at hp'
     cases i with
     | zero =>
      simp at hp' hu'
      subst hp' hu'
      exact hy2 _ _ hx2
     | succ i =>
      simp at hp' hu'
      exact hz3 i p u' hp' hu'
theorem law_tail {P:Program} (hl:laidOutB P=true) {f:Nat} {fn:Func} {s:ChangeSpec} {H:Type} {enc:TypeId×Value→H} {W:World} {base:Nat} {args:Array Value} {ds gs:List (DataW H)} {before:List MemPlace} {ins:Fm} {F:DT ins.den→Option (DT (Fm.v .b).den)} {d:Nat} {tb:TypeId}
  (hpe:PE.ok P ⟨f,ins,.v .b,F⟩) (hF:∀ v,WfF ins v→F v=some true) (hpt:parsT P d fn.params.toList ins=true)
  (hrt:fn.resultTypes=#[tb]) (htb:P.underlying tb=some .bool) (hvars:s.vars=[])
  (hts:(fn.params.toList.all fun t=>P.readableRec t&&decide (t < P.types.size))=true)
  (hval:∀ (j:Nat) t v,fn.params[j]?=some t→args[j]?=some v→Value.okWide P W .any base t v)
  (hW:DataW.Whole enc P fn.params.toList s.vars false W args.toList ds gs before)
  (hfn:s.fn H (ds++gs)={ results:=[.lit (.bool true)],args:=ds }) :
  Calls P f args W fun e W'=>∃ v,e=.returned v∧s.post enc P fn false true false false W args v W':=by
 have hW':=hW
 obtain ⟨p,q,hA0,hV,_,_,_⟩:=hW
 obtain ⟨v,h1,h2,h3⟩:=args_data hpt (fun j t v hj hv=>hval j t v (by simpa using hj) (by simpa using hv)) hA0
 refine law_post hl (hpe.h v true (hF v h1)) hrt htb hvars hts hW' hfn (by simpa using h2) fun i p u hp hu=>h3 i p u hp (by simpa using hu)
end Go.Proofs.Yticljphbbdnomaa.VL
