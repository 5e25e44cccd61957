import Derived.Test.YticljphbbdnomaaW1Xm
section
namespace Go.Proofs.Yticljphbbdnomaa.VL
open Go
set_option linter.unusedVariables false
set_option linter.unusedSimpArgs false
set_option linter.unusedSectionVars false
variable [Val]
variable {P:Program}
noncomputable def xDr {R:Type} (pur:Pur) (wp:List Nat) (N M o:Nat):List XO→XSt→(List XSt→Option R)→Option R
 | [],st,K=>K [st]
 | x::r,st,K=>xGuard N x.io.guard st (fun st1=>xOneW pur wp N M o x.a x.ws x.io.op x.io.dst st1 (fun st'=>xDr pur wp N M o r st' fun l=>K (st::l))) (fun st1=>xDr pur wp N M o r (XSt.put st1.t x.io.dst (.k (.v undef)) st1.h st1.n) fun l=>K (st::l))
def StpX (P:Program) (N M o:Nat) (x:XO) (s s':XSt):Prop:=Stp P (x.io.at o) (s.to N M) (s'.to N M)∧∀ l,tgO N o s x=some l→Stay l (s.to N M).h (s'.to N M).h
theorem put_h (st:St) (d:Option Nat) (p:PV):(st.put d p).h=st.h:=by cases d<;>rfl
theorem stp_yes {pur:Pur} (hpur:PurOk P pur) {wp:List Nat} {N M o:Nat} {x:XO} {st st1:XSt} {R:Type} {K:XSt→Option R} {r:R} (hcls:(x.io.op.at o).cls≤2) (he:st1.to N M=st.to N M) (hev:evX N st1.t=evX N st.t) (hg:guardYes (x.io.at o) (st.to N M)) (hk:xOneW pur wp N M o x.a x.ws x.io.op x.io.dst st1 K=some r) :
  ∃ st',K st'=some r∧StpX P N M o x st st':=by
 have hargs:∀ args:List Opd,toPVL (args.map (evX N st1.t))=args.map (st.to N M).ev:=by
  intro args
  rw [toPVL_map,List.map_map,← he,← evX_eq N M st1]; rfl
 have htgt:tgX N st (x.io.op.at o)=tgX N st1 (x.io.op.at o):=by
  generalize x.io.op.at o=op
  cases op<;>simp only [tgX,hev]
 have pure:∀ {f:Nat} {args:List PV} {v:XV},VPure P f args v.toPV→K (XSt.put st1.t x.io.dst v st1.h st1.n)=some r →
   (∀ K':QP,(∀ h n,GCall P f args h n v.toPV h n→K' v.toPV h n→rawK P (st.to N M).ev h n K' (x.io.op.at o)))→∃ st',K st'=some r∧StpX P N M o x st st':=by
  intro f args v hv hk hraw
  refine ⟨_,hk,.inl ⟨hg,v.toPV,(st.to N M).h,(st.to N M).n,?_,fun K' hK'=>hraw K' _ _ (gcall_of_pure hv _ _) hK',fun _=>⟨rfl,rfl⟩,fun _ h2 n2 K' hK'=>hraw K' _ _ (gcall_of_pure hv _ _) hK'⟩,fun l _=>?_⟩
  ·rw [put_to]
   have:(⟨toT N st1.t,toH M st1.h,st1.n⟩:St)=st.to N M:=he
   rw [this]; rfl
  ·rw [put_to,put_h]
   have:(⟨toT N st1.t,toH M st1.h,st1.n⟩:St)=st.to N M:=he
   rw [this]; exact Stay.refl _ _
 unfold xOneW at hk
 split at hk
 case h_2 w0 r0 hws =>
  split at hk
  case h_3=>cases hk
  case h_2 =>
   rename_i s y args hop
   split at hk
   case h_2=>cases hk
   split at hk
   case h_2=>cases hk
   rename_i f fs cs hy
   obtain ⟨v,h',n',hk,hG,hS⟩:=hpur.g _ _ _ _ _ _ _ _ _ _ hk
   rw [toPVL_append,toPVL_append,hargs] at hG
   have hcl:(st.to N M).ev y=.clo f (toPVL fs) (toPVL cs):=by
    rw [← he,← evX_eq N M st1]; simp only [rp,hy,XV.toPV]
   have e1:toH M st1.h=(st.to N M).h:=by rw [← he]; rfl
   have e2:st1.n=(st.to N M).n:=by rw [← he]; rfl
   rw [e1,e2] at hG
   refine ⟨_,hk,.inl ⟨hg,v.toPV,toH M h',n',?_,fun K' hK'=>?_,fun hc=>?_,fun hc=>?_⟩,fun l hl=>?_⟩
   ·rw [put_to,← he]; rfl
   ·rw [show (x.io.at o).op=x.io.op.at o from rfl,hop]
    show (match (st.to N M).ev y with | .clo f fs cs=>∃ r h' n',GCall P f (fs++args.map (st.to N M).ev++cs) (st.to N M).h (st.to N M).n r h' n'∧K' r h' n' | _=>False)
    rw [hcl]
    exact ⟨v.toPV,_,_,hG,hK'⟩
   ·rw [show (x.io.at o).op=x.io.op.at o from rfl,hop] at hc; simp [IOp.at,IOp.cls] at hc
   ·rw [show (x.io.at o).op=x.io.op.at o from rfl,hop] at hc; simp [IOp.at,IOp.cls] at hc
   ·rw [put_to,put_h]
    unfold tgO at hl
    rw [hws] at hl
    cases hl
    intro b hb
    have:=hS b hb
    rw [← e1]; exact this
  rename_i s f args hop
  split at hk
  case h_2=>cases hk
  obtain ⟨v,h',n',hk,hG,hS⟩:=hpur.g _ _ _ _ _ _ _ _ _ _ hk
  rw [hargs] at hG
  have e1:toH M st1.h=(st.to N M).h:=by rw [← he]; rfl
  have e2:st1.n=(st.to N M).n:=by rw [← he]; rfl
  rw [e1,e2] at hG
  refine ⟨_,hk,.inl ⟨hg,v.toPV,toH M h',n',?_,fun K' hK'=>?_,fun hc=>?_,fun hc=>?_⟩,fun l hl=>?_⟩
  ·rw [put_to,← he]; rfl
  ·rw [show (x.io.at o).op=x.io.op.at o from rfl,hop]; exact ⟨v.toPV,_,_,hG,hK'⟩
  ·rw [show (x.io.at o).op=x.io.op.at o from rfl,hop] at hc; simp [IOp.at,IOp.cls] at hc
  ·rw [show (x.io.at o).op=x.io.op.at o from rfl,hop] at hc; simp [IOp.at,IOp.cls] at hc
  ·rw [put_to,put_h]
   unfold tgO at hl
   rw [hws] at hl
   cases hl
   intro b hb
   have:=hS b hb
   rw [← e1]; exact this
 rename_i hws
 have htg:∀ l,tgO N o st x=some l ↔ tgX N st (x.io.op.at o)=some l:=by
  intro l; unfold tgO; rw [hws]
 unfold xOne at hk
 split at hk
 ·rename_i s f args hop
  obtain ⟨v,hk,hv⟩:=hpur.p _ _ _ _ _ hk
  rw [hargs] at hv
  refine pure hv hk ?_
  intro K' h n hG hK'
  rw [hop]
  exact ⟨v.toPV,hv,hK'⟩
 ·rename_i s f args hop
  obtain ⟨v,hk,hv⟩:=hpur.p _ _ _ _ _ hk
  rw [hargs] at hv
  refine pure hv hk ?_
  intro K' h n hG hK'
  rw [hop]
  exact ⟨v.toPV,h,n,hG,hK'⟩
 ·rename_i s y args hop
  split at hk
  ·rename_i f fs cs hy
   obtain ⟨v,hk,hv⟩:=hpur.p _ _ _ _ _ hk
   rw [toPVL_append,toPVL_append,hargs] at hv
   have hcl:(st.to N M).ev y=.clo f (toPVL fs) (toPVL cs):=by
    rw [← he,← evX_eq N M st1]; simp only [rp,hy,XV.toPV]
   refine pure hv hk ?_
   intro K' h n hG hK'
   rw [hop]
   show (match (st.to N M).ev y with | .clo f fs cs=>∃ r,VPure P f (fs++args.map (st.to N M).ev++cs) r∧K' r h n | _=>False)
   rw [hcl]
   exact ⟨v.toPV,hv,hK'⟩
  ·cases hk
 ·rename_i s y args hop
  split at hk
  ·rename_i f fs cs hy
   obtain ⟨v,hk,hv⟩:=hpur.p _ _ _ _ _ hk
   rw [toPVL_append,toPVL_append,hargs] at hv
   have hcl:(st.to N M).ev y=.clo f (toPVL fs) (toPVL cs):=by
    rw [← he,← evX_eq N M st1]; simp only [rp,hy,XV.toPV]
   refine pure hv hk ?_
   intro K' h n hG hK'
   rw [hop]
   show (match (st.to N M).ev y with | .clo f fs cs=>∃ r h' n',GCall P f (fs++args.map (st.to N M).ev++cs) h n r h' n'∧K' r h' n' | _=>False)
   rw [hcl]
   exact ⟨v.toPV,h,n,hG,hK'⟩
  ·cases hk
 ·rename_i h1 h2 h3 h4
  split at hk
  case h_2=>cases hk
  have O:OkK false M (fun v h n=>K (XSt.put st1.t x.io.dst v h n)) r (fun p h n=>∃ st',K st'=some r∧st'.to N M=St.put ⟨(st.to N M).t,h,n⟩ x.io.dst p):=by
   refine ⟨fun {v h n} hk=>⟨_,hk,?_⟩,fun h=>by cases h⟩
   rw [put_to,← he]; rfl
  have hh:=xOp_snd x.a (x.io.op.at o) _ r _ hk O
  rw [evX_eq N M st1,he] at hh
  have e1:toH M st1.h=(st.to N M).h:=by rw [← he]; rfl
  have e2:st1.n=(st.to N M).n:=by rw [← he]; rfl
  rw [e1,e2] at hh
  have raw:∀ K':QP,rawK P (st.to N M).ev (st.to N M).h (st.to N M).n K' (x.io.op.at o) ↔ opK (st.to N M).ev (st.to N M).h (st.to N M).n K' (x.io.op.at o):=by
   intro K'
   generalize hop:x.io.op=op at h1 h2 h3 h4
   cases op<;>first | exact Iff.rfl | (exact absurd rfl (h1 _ _ _)) | (exact absurd rfl (h2 _ _ _)) | (exact absurd rfl (h3 _ _ _)) | (exact absurd rfl (h4 _ _ _))
  have hh2:=(raw _).2 hh
  obtain ⟨p,h',n',⟨st',k1,k2⟩,k3,k4,k5⟩:=rawK_det hcls hh2
  refine ⟨st',k1,.inl ⟨hg,p,h',n',k2,k3,k4,k5⟩,fun l hl=>?_⟩
  have h6:=(raw _).1 (k3 (fun p2 h2 n2=>h2=h') rfl)
  obtain ⟨_,h2,_,hq,hst⟩:=opK_stay (M:=M) ((htg l).1 hl) h6
  rw [k2,put_h]
  show Stay l (st.to N M).h h'
  rw [← hq]; exact hst
theorem setg_ev {N:Nat} {st:XSt} {g:Nat} {c:Bool} (hv:evX N st.t (.t g)=.b c):evX N ((g,.b c)::st.t)=evX N st.t:=by
 funext y
 cases y with
 | c p=>rfl
 | t i =>
  by_cases hi:g=i
  ·subst hi
   simp only [evX,lk_cons,if_true] at hv ⊢
   split at hv
   ·exact hv.symm
   ·cases hv
  ·simp only [evX,lk_cons,if_neg hi]
theorem setg_to {N M:Nat} {st:XSt} {g:Nat} {c:Bool} (hv:evX N st.t (.t g)=.b c):(⟨(g,.b c)::st.t,st.h,st.n⟩:XSt).to N M=st.to N M:=by
 simp only [XSt.to,toT_set,XV.toPV]
 congr 1
 simp only [evX] at hv
 split at hv
 ·rename_i hb
  have hlt:g < N:=Nat.le_of_ble_eq_true hb
  split at hv
  ·rename_i z hz
   subst hv
   apply List.ext_getElem?
   intro j
   rw [List.getElem?_set]
   by_cases hj:g=j
   ·subst hj
    rw [if_pos rfl,if_pos (by rw [toT_len]; exact hlt)]
    simp only [toT,List.getElem?_map,List.getElem?_range hlt,Option.map_some,hz,Option.getD_some,XV.toPV]
   ·rw [if_neg hj]
  ·cases hv
 ·cases hv
theorem guard_cases {N M:Nat} {x:IOper} {st:XSt} {R:Type} {yes no:XSt→Option R} {r:R} (hk:xGuard N x.guard st yes no=some r) :
  (∃ st1,st1.to N M=st.to N M∧evX N st1.t=evX N st.t∧guardYes x (st.to N M)∧yes st1=some r)∨(∃ st1,st1.to N M=st.to N M∧evX N st1.t=evX N st.t∧guardNo x (st.to N M)∧no st1=some r):=by
 unfold xGuard at hk
 split at hk
 ·rename_i hg
  exact .inl ⟨st,rfl,rfl,by simp [guardYes,hg],hk⟩
 ·rename_i g want hg
  have getg:∀ {y:XV},evX N st.t (.t g)=y→y≠.dead→(st.to N M).t[g]?=some y.toPV:=by
   intro y hy hd
   simp only [evX] at hy
   split at hy
   ·rename_i hi
    have hi:g < N:=Nat.le_of_ble_eq_true hi
    split at hy
    ·rename_i z hz
     subst hy
     simp only [XSt.to,toT,List.getElem?_map,List.getElem?_range hi,Option.map_some,hz,Option.getD_some]
    ·exact absurd hy.symm hd
   ·exact absurd hy.symm hd
  split at hk
  ·rename_i c hv
   have hb:=getg hv (by simp)
   split at hk
   ·rcases cond_some hk with ⟨rfl,hk⟩ | ⟨rfl,hk⟩
    ·exact .inl ⟨_,setg_to hv,setg_ev hv,by simp only [guardYes,hg]; exact .inl hb,hk⟩
    ·exact .inr ⟨_,setg_to hv,setg_ev hv,by simp only [guardNo,hg]; exact .inl ⟨_,hb,by simp⟩,hk⟩
   ·rcases cond_some hk with ⟨rfl,hk⟩ | ⟨rfl,hk⟩
    ·exact .inr ⟨_,setg_to hv,setg_ev hv,by simp only [guardNo,hg]; exact .inl ⟨_,hb,by simp⟩,hk⟩
    ·exact .inl ⟨_,setg_to hv,setg_ev hv,by simp only [guardYes,hg]; exact .inl hb,hk⟩
  ·rename_i k m hv
   have hb:=getg hv (by simp)
   exact .inr ⟨st,rfl,rfl,by simp only [guardNo,hg]; exact .inl ⟨_,hb,by simp⟩,hk⟩
  ·rename_i m hv
   have hb:=getg hv (by simp)
   exact .inr ⟨st,rfl,rfl,by simp only [guardNo,hg]; exact .inl ⟨_,hb,by simp⟩,hk⟩
  ·cases hk
  ·rename_i u hu hv
   have hb:=getg hv (by simp)
   exact .inr ⟨st,rfl,rfl,by simp only [guardNo,hg]; exact .inl ⟨u,hb,fun h=>hu want h⟩,hk⟩
  ·cases hk
theorem xDr_ok {pur:Pur} (hpur:PurOk P pur) {wp:List Nat} {N M o:Nat} {R:Type} {r:R}:∀ (xs:List XO) (st:XSt) (K:List XSt→Option R),(∀ x ∈ xs,(x.io.op.at o).cls≤2)→xDr pur wp N M o xs st K=some r →
  ∃ l:List XSt,K (st::l)=some r∧l.length=xs.length∧∀ (i:Nat) (x:XO) (s s':XSt),xs[i]?=some x→(st::l)[i]?=some s→(st::l)[i+1]?=some s'→StpX P N M o x s s'
 | [],st,K,_,h=>⟨[],h,rfl,fun i x s s' hx=>by simp at hx⟩
 | x::xs,st,K,hc,h=>by
  simp only [xDr] at h
  have next:∀ st',StpX P N M o x st st'→xDr pur wp N M o xs st' (fun l=>K (st::l))=some r→∃ l:List XSt,K (st::l)=some r∧l.length=(x::xs).length∧∀ (i:Nat) (y:XO) (s s':XSt),(x::xs)[i]?=some y→(st::l)[i]?=some s→(st::l)[i+1]?=some s'→StpX P N M o y s s':=by
   intro st' hst h
   obtain ⟨l,h1,h2,h3⟩:=xDr_ok hpur xs st' _ (fun y hy=>hc y (List.mem_cons_of_mem _ hy)) h
   refine ⟨st'::l,h1,by simp [h2],fun i y s s' hy hs hs'=>?_⟩
   cases i with
   | zero =>
    simp at hy hs hs'
    subst hy hs hs'
    exact hst
   | succ i =>
    simp only [List.getElem?_cons_succ] at hy hs hs'
    exact h3 i y s s' hy hs (by simpa using hs')
  rcases guard_cases (M:=M) h with ⟨st1,e1,e2,hg,hk⟩ | ⟨st1,e1,e2,hg,hk⟩
  ·obtain ⟨st',hk,hst⟩:=stp_yes hpur (hc x (by simp)) e1 e2 hg hk
   exact next st' hst hk
  ·refine next _ ⟨.inr ⟨hg,?_⟩,fun l _=>?_⟩ hk
   ·rw [put_to,← e1]; rfl
   ·rw [put_to,put_h,← e1]; exact Stay.refl _ _
def adX (N:Nat) (st:XSt):IOp→Option Nat
 | .load _ _ a=>(match evX N st.t a with | .optr b _ _ _=>some b | _=>none)
 | _=>none
def isSp (N:Nat) (st:XSt):IOp→Bool
 | .load _ _ a=>(match evX N st.t a with | .sptr _=>true | .k (.v _)=>true | _=>false)
 | _=>false
def keep1 (N o:Nat) (xs:List XO) (l:List XSt) (p:Nat×Nat):Bool:=match xs[p.1]?,l[p.1]?,xs[p.2]?,l[p.2]? with
 | some x,some s,some y,some s1=>isSp N s (x.io.op.at o) || (match adX N s (x.io.op.at o),tgO N o s1 y with
  | some b,some t=>!inB' t b
  | _,_=>false)
 | _,_,_,_=>false
theorem inB'_mem:∀ {l:List Nat} {b:Nat},inB' l b=false→b ∉ l
 | [],b,_=>by simp
 | x::r,b,h=>by
  simp only [inB'] at h
  split at h
  ·cases h
  ·rename_i hx
   intro hm
   rcases List.mem_cons.1 hm with rfl | hm
   ·rw [Nat.beq_refl] at hx; cases hx
   ·exact inB'_mem h hm
theorem keep1_ok {N M o:Nat} {xs:List XO} {l:List XSt} {p:Nat×Nat} (hl:l.length=xs.length+1) (hs:∀ (i:Nat) (x:XO) (s s':XSt),xs[i]?=some x→l[i]?=some s→l[i+1]?=some s'→StpX P N M o x s s') (h:keep1 N o xs l p=true)
  {x:XO} (hx:xs[p.1]?=some x) {s s1 s2:XSt} (h0:l[p.1]?=some s) (h1:l[p.2]?=some s1) (h2:l[p.2+1]?=some s2):peekOp (s.to N M).ev (s1.to N M).h (x.io.op.at o)=peekOp (s.to N M).ev (s2.to N M).h (x.io.op.at o):=by
 unfold keep1 at h
 rw [hx,h0,h1] at h
 split at h
 ·rename_i x' s' y s1' e1 e2 e3 e4
  cases e1; cases e2; cases e4
  rw [← evX_eq N M s]
  rw [Bool.or_eq_true] at h
  rcases h with h | h
  ·unfold isSp at h
   split at h
   ·rename_i g m a hop
    split at h
    ·rename_i cs hv
     rw [hop]
     simp only [peekOp,rp,hv,XV.toPV]
    ·rename_i cs hv
     rw [hop]
     simp only [peekOp,rp,hv,XV.toPV]
    ·cases h
   ·cases h
  ·split at h
   ·rename_i b t hb ht
    have hst:=(hs p.2 y s1 s2 e3 h1 h2).2 t ht
    have hne:b ∉ t:=inB'_mem (by simpa using h)
    unfold adX at hb
    split at hb
    ·rename_i g m a hop
     split at hb
     ·rename_i b' s0 i off hv
      cases hb
      rw [hop]
      simp only [peekOp,rp,hv,XV.toPV,hst b hne]
     ·cases hb
    ·cases hb
   ·cases h
 ·cases h
def dstB (N:Nat) (xs:List XO):Bool:=xs.all fun x=>match x.io.dst with | some d=>Nat.blt d N | none=>true
def clsB (o:Nat) (xs:List XO):Bool:=xs.all fun x=>Nat.ble (x.io.op.at o).cls 2
def lastX:List XSt→Option XSt
 | []=>none
 | [s]=>some s
 | _::r=>lastX r
theorem lastX_get:∀ {l:List XSt} {s:XSt},lastX l=some s→l[l.length - 1]?=some s
 | [],s,h=>by cases h
 | [a],s,h=>by cases h; rfl
 | a::b::r,s,h=>by
  have:=lastX_get (l:=b::r) h
  simpa using this
noncomputable def xDraw {R:Type} (pur:Pur) (wp:List Nat) (N M o:Nat) (un:List (Nat×Nat)) (xs:List XO) (st:XSt) (K:XSt→Option R):Option R:=match dstB N xs&&clsB o xs with
 | true=>xDr pur wp N M o xs st fun l=>(match un.all (keep1 N o xs l),lastX l with
  | true,some s=>K s
  | _,_=>none)
 | false=>none
theorem xDraw_ok {pur:Pur} (hpur:PurOk P pur) {wp:List Nat} {N M o:Nat} {un:List (Nat×Nat)} {xs:List XO} {st:XSt} {R:Type} {K:XSt→Option R} {r:R} (hk:xDraw pur wp N M o un xs st K=some r) :
  ∃ (S:Nat→St) (s:XSt),S 0=st.to N M∧K s=some r∧S xs.length=s.to N M∧(∀ (i:Nat) (io:IOper),(xs.map fun x=>x.io.at o)[i]?=some io→Stp P io (S i) (S (i+1)))∧Keeps (xs.map fun x=>x.io.at o) un S ∧
   (∀ io ∈ (xs.map fun x=>x.io.at o),∀ d,io.dst=some d→d < (st.to N M).t.length)∧(∀ io ∈ (xs.map fun x=>x.io.at o),io.op.cls≤2):=by
 unfold xDraw at hk
 split at hk
 ·rename_i hb
  rw [Bool.and_eq_true] at hb
  have hcls:∀ x ∈ xs,(x.io.op.at o).cls≤2:=fun x hx=>Nat.le_of_ble_eq_true (List.all_eq_true.1 hb.2 x hx)
  obtain ⟨l,h1,h2,h3⟩:=xDr_ok (M:=M) hpur xs st _ hcls hk
  split at h1
  ·rename_i s hun hlast
   have hl:(st::l).length=xs.length+1:=by simp [h2]
   have hlast:=lastX_get hlast
   rw [hl] at hlast
   simp only [Nat.add_sub_cancel] at hlast
   let S:Nat→St:=fun i=>match (st::l)[i]? with | some s=>s.to N M | none=>st.to N M
   have hS:∀ {i:Nat} {s:XSt},(st::l)[i]?=some s→S i=s.to N M:=by
    intro i s hi
    simp only [S,hi]
   refine ⟨S,s,rfl,h1,hS hlast,?_,?_,?_,?_⟩
   ·intro i io hio
    rw [List.getElem?_map] at hio
    simp only [Option.map_eq_some_iff] at hio
    obtain ⟨x,hx,rfl⟩:=hio
    have hlt:=(List.getElem?_eq_some_iff.1 hx).1
    have g1:(st::l)[i]?=some (st::l)[i]:=List.getElem?_eq_getElem (by omega)
    have g2:(st::l)[i+1]?=some (st::l)[i+1]:=List.getElem?_eq_getElem (by omega)
    rw [hS g1,hS g2]
    exact (h3 i x _ _ hx g1 g2).1
   ·intro p hp io hio
    rw [List.getElem?_map] at hio
    simp only [Option.map_eq_some_iff] at hio
    obtain ⟨x,hx,rfl⟩:=hio
    have hkp:=List.all_eq_true.1 hun p hp
    have hlt1:=(List.getElem?_eq_some_iff.1 hx).1
    have hlt2:p.2 < xs.length:=by
     unfold keep1 at hkp
     split at hkp
     ·rename_i e3 _
      exact (List.getElem?_eq_some_iff.1 e3).1
     ·cases hkp
    have g0:(st::l)[p.1]?=some (st::l)[p.1]:=List.getElem?_eq_getElem (by omega)
    have g1:(st::l)[p.2]?=some (st::l)[p.2]:=List.getElem?_eq_getElem (by omega)
    have g2:(st::l)[p.2+1]?=some (st::l)[p.2+1]:=List.getElem?_eq_getElem (by omega)
    rw [hS g0,hS g1,hS g2]
    exact keep1_ok (P:=P) hl h3 hkp hx g0 g1 g2
   ·intro io hio d hd
    rw [List.mem_map] at hio
    obtain ⟨x,hx,rfl⟩:=hio
    have:=List.all_eq_true.1 hb.1 x hx
    have hd:x.io.dst=some d:=hd
    rw [hd] at this
    simp only [XSt.to,toT_len]
    exact Nat.le_of_ble_eq_true this
   ·intro io hio
    rw [List.mem_map] at hio
    obtain ⟨x,hx,rfl⟩:=hio
    exact hcls x hx
  ·cases h1
 ·cases hk
end Go.Proofs.Yticljphbbdnomaa.VL
end
section
namespace Go.Proofs.Yticljphbbdnomaa.VL
open Go
set_option linter.unusedVariables false
set_option linter.unusedSimpArgs false
set_option linter.unusedSectionVars false
variable [Val]
variable {P:Program} {R:Type}
def quietOp:IOp→Bool
 | .mov .. | .pick .. | .bld .. | .bsl .. | .load .. | .nilc .. | .bin .. | .binB .. | .nilq .. | .eqA .. | .un .. | .conv .. | .convS .. | .fn .. | .slc .. | .slS .. | .fad .. | .fld .. | .iad .. | .iaA .. | .ixA .. | .ixS .. | .ext .. | .len .. | .lenS .. | .cap .. | .mm .. | .lkp .. | .lenM .. | .bts ..=>true
 | _=>false
theorem lkpX_const {ok:Bool} {k:EK} {z key:XV} {h:Heap} {n:Nat} {K:KX R}:∀ l:List (XV×XV),lkpX ok k z key h n K l=lkpX ok k z key h n (fun v _ _=>K v h n) l
 | []=>rfl
 | p::l=>by
  simp only [lkpX]
  rw [lkpX_const l]
  rfl
theorem xOp_const {w:Bool} {M:Nat} {a:TT} {ρ:Opd→XV} {h:Heap} {n:Nat} {K:KX R} {op:IOp} (hq:quietOp op=true):xOp w M a ρ h n K op=xOp w M a ρ h n (fun v _ _=>K v h n) op:=by
 cases op<;>first
  | rfl
  | (cases hq; done)
  | skip
 rename_i ok k z x key
 show xLkp w M ok k z (ρ x) (ρ key) h n K=xLkp w M ok k z (ρ x) (ρ key) h n (fun v _ _=>K v h n)
 unfold xLkp
 split
 ·split
  ·rfl
  ·exact lkpX_const _
  ·rfl
 ·rfl
theorem xOp_congr {w:Bool} {N M:Nat} {a:TT} {st:XSt} {K K':KX R} {op:IOp} {l:List Nat} (hl:tgX N st op=some l) (h:∀ v h' n',StayX M l st.h h'→K v h' n'=K' v h' n'):xOp w M a (evX N st.t) st.h st.n K op=xOp w M a (evX N st.t) st.h st.n K' op:=by
 by_cases hq:quietOp op=true
 ·rw [xOp_const (K:=K) hq,xOp_const (K:=K') hq]
  congr 1
  funext v _ _
  exact h v st.h st.n (StayX.refl _ _ _)
 ·have e0:∀ v n',K v st.h n'=K' v st.h n':=fun v n'=>h v st.h n' (StayX.refl _ _ _)
  have e1:∀ b,b ∈ l→∀ v x n',K v ((b,x)::st.h) n'=K' v ((b,x)::st.h) n':=fun b hb v x n'=>h v _ n' (StayX.cons hb x _)
  cases op<;>simp only [quietOp,not_true_eq_false] at hq<;>simp only [tgX,Option.some.injEq,reduceCtorEq] at hl
  case alloc s z=>subst hl; simp only [xOp,xAlloc,e1 s (by simp)]
  case box s sz x=>subst hl; simp only [xOp,xBox,e1 s (by simp)]
  case store m a x =>
   split at hl<;>simp only [reduceCtorEq,Option.some.injEq] at hl
   rename_i b s i off hv
   subst hl
   simp only [xOp,xStore,hv,e1 b (by simp)]
  case mksl s sz bytes z a c=>subst hl; simp only [xOp,xMksl,e1 s (by simp)]
  case app s sz bytes z x y =>
   split at hl<;>simp only [reduceCtorEq,Option.some.injEq] at hl
   ·rename_i b st' sz' off len cap hv
    subst hl
    simp only [xOp,xApp,hv,e1 b (by simp),e1 s (by simp)]
   ·rename_i c es hv
    subst hl
    simp only [xOp,xApp,hv,e1 s (by simp),e0]
    cases c<;>cases es<;>rfl
  case cpy sz x y =>
   split at hl<;>simp only [reduceCtorEq,Option.some.injEq] at hl
   rename_i b s sz' off len cap hv
   subst hl
   simp only [xOp,xCpy,hv,e1 b (by simp)]
  case mkm s=>subst hl; simp only [xOp,xMkm,e1 s (by simp)]
  case mup k x key v =>
   split at hl<;>simp only [reduceCtorEq,Option.some.injEq] at hl
   rename_i b s hv
   subst hl
   simp only [xOp,xMup,hv,e1 b (by simp)]
  case del k x key =>
   split at hl<;>simp only [reduceCtorEq,Option.some.injEq] at hl
   rename_i b s hv
   subst hl
   simp only [xOp,xDel,hv,e1 b (by simp)]
  case clr sz z x =>
   split at hl<;>simp only [reduceCtorEq,Option.some.injEq] at hl
   rename_i b s sz' off len cap hv
   subst hl
   simp only [xOp,xClr,hv,e1 b (by simp)]
  case rngS s x=>subst hl; simp only [xOp,xRngS,e1 s (by simp)]
  case nxtS x =>
   split at hl<;>simp only [reduceCtorEq,Option.some.injEq] at hl
   rename_i b s i off hv
   subst hl
   simp only [xOp,xNxtS,hv,e1 b (by simp),e0]
  all_goals rfl
def CalFr (cal:Cal):Prop:=∀ (f:Nat) (args:List XV) (M:Nat) (wp:List Nat) (h:Heap) (n s:Nat) (R:Type) (K K':KX R),(∀ v h' n',StayX M wp h h'→K v h' n'=K' v h' n')→cal f args M wp h n s R K=cal f args M wp h n s R K'
structure Fro (N M:Nat) (ds ws:List Nat) (st st':XSt):Prop where
 t:∀ i,i ∉ ds→(st'.to N M).t[i]?=(st.to N M).t[i]?
 h:StayX M ws st.h st'.h
theorem Fro.refl {N M:Nat} {ds ws:List Nat} (st:XSt):Fro N M ds ws st st:=⟨fun _ _=>rfl,StayX.refl _ _ _⟩
theorem Fro.trans {N M:Nat} {ds ws:List Nat} {a b c:XSt} (h:Fro N M ds ws a b) (k:Fro N M ds ws b c):Fro N M ds ws a c:=⟨fun i hi=>(k.t i hi).trans (h.t i hi),h.h.trans k.h⟩
theorem Fro.of {N M:Nat} {ds ws:List Nat} {st st1:XSt} (h:st1.to N M=st.to N M):Fro N M ds ws st st1:=⟨fun i _=>by rw [h],fun b _=>by
 have:(st1.to N M).h=(st.to N M).h:=by rw [h]
 have e:toH M st1.h=toH M st.h:=this
 rw [e]⟩
theorem Fro.put {N M:Nat} {ds ws:List Nat} (st:XSt) {d:Option Nat} (hd:∀ x,d=some x→x ∈ ds) (v:XV) {h':Heap} {n':Nat} (hh:StayX M ws st.h h'):Fro N M ds ws st (XSt.put st.t d v h' n'):=by
 refine ⟨fun i hi=>?_,?_⟩
 ·rw [put_to]
  cases d with
  | none=>rfl
  | some x =>
   have hx:=hd x rfl
   show ((toT N st.t).set x v.toPV)[i]?=_
   rw [List.getElem?_set_ne (fun h=>hi (by rw [← h]; exact hx))]; rfl
 ·cases d<;>exact hh
theorem Fro.mono {N M:Nat} {ds ds' ws ws':List Nat} {st st':XSt} (h:Fro N M ds ws st st') (hd:∀ x ∈ ds,x ∈ ds') (hw:∀ x ∈ ws,x ∈ ws'):Fro N M ds' ws' st st':=⟨fun i hi=>h.t i (fun hm=>hi (hd i hm)),h.h.mono hw⟩
def dstIn (ds:List Nat) (x:IOper):Bool:=match x.dst with | some d=>inB' ds d | none=>true
theorem inB'_true:∀ {l:List Nat} {b:Nat},inB' l b=true→b ∈ l
 | [],b,h=>by cases h
 | x::r,b,h=>by
  simp only [inB'] at h
  split at h
  ·rename_i hx; rw [Nat.eq_of_beq_eq_true hx]; simp
  ·exact List.mem_cons_of_mem _ (inB'_true h)
theorem dstIn_ok {ds:List Nat} {x:IOper} (h:dstIn ds x=true):∀ y,x.dst=some y→y ∈ ds:=by
 intro y hy
 unfold dstIn at h
 rw [hy] at h
 exact inB'_true h
def setXO (ds:List Nat) (x:XO):Bool:=dstIn ds x.io&&x.fz.all (inB' ds)
theorem permB_ok {wp:List Nat} {o:Option (List Nat)} (h:permB wp o=true):∃ l,o=some l∧∀ b ∈ l,b ∈ wp:=by
 cases o with
 | none=>cases h
 | some l=>exact ⟨l,rfl,fun b hb=>inB'_true (List.all_eq_true.1 h b hb)⟩
theorem xDo_congr {cal:Cal} (hc:CalFr cal) {wp:List Nat} {N M o:Nat} {a:TT} {op:IOp} {d:Option Nat} {st:XSt} {K K':XSt→Option R} (h:∀ v h' n',StayX M wp st.h h'→K (XSt.put st.t d v h' n')=K' (XSt.put st.t d v h' n')):xDo cal wp N M o a op d st K=xDo cal wp N M o a op d st K':=by
 unfold xDo
 split
 ·exact hc _ _ _ _ _ _ _ _ _ _ h
 ·split
  ·exact hc _ _ _ _ _ _ _ _ _ _ h
  ·rfl
 ·split
  ·rename_i hp
   obtain ⟨l,hl,hw⟩:=permB_ok hp
   exact xOp_congr hl fun v h' n' hs=>h v h' n' (hs.mono hw)
  ·rfl
theorem xOne_congr {pur:Pur} {wp:List Nat} {N M o:Nat} {a:TT} {op:IOp} {d:Option Nat} {st:XSt} {K K':XSt→Option R} (h:∀ v h' n',StayX M wp st.h h'→K (XSt.put st.t d v h' n')=K' (XSt.put st.t d v h' n')):xOne pur wp N M o a op d st K=xOne pur wp N M o a op d st K':=by
 have e2:(fun (v:XV)=>K (XSt.put st.t d v st.h st.n))=fun (v:XV)=>K' (XSt.put st.t d v st.h st.n):=by
  funext v; exact h v _ _ (StayX.refl _ _ _)
 unfold xOne
 split
 ·rw [e2]
 ·rw [e2]
 ·split
  ·rw [e2]
  ·rfl
 ·split
  ·rw [e2]
  ·rfl
 ·split
  ·rename_i hp
   obtain ⟨l,hl,hw⟩:=permB_ok hp
   exact xOp_congr hl fun v h' n' hs=>h v h' n' (hs.mono hw)
  ·rfl
theorem xOneW_congr {pur:Pur} {wp:List Nat} {N M o:Nat} {a:TT} {ws:List Nat} {op:IOp} {d:Option Nat} {st:XSt} {K K':XSt→Option R} (h:∀ v h' n',StayX M wp st.h h'→K (XSt.put st.t d v h' n')=K' (XSt.put st.t d v h' n')):xOneW pur wp N M o a ws op d st K=xOneW pur wp N M o a ws op d st K':=by
 unfold xOneW
 split
 ·exact xOne_congr h
 ·split
  ·split
   ·rename_i hb
    exact pur.fr _ _ _ _ _ _ _ _ _ _ fun v h' n' hs=>h v h' n' (hs.mono fun x hx=>inB'_true (List.all_eq_true.1 hb x hx))
   ·rfl
  ·split
   ·rename_i hb
    split
    ·exact pur.fr _ _ _ _ _ _ _ _ _ _ fun v h' n' hs=>h v h' n' (hs.mono fun x hx=>inB'_true (List.all_eq_true.1 hb x hx))
    ·rfl
   ·rfl
  ·rfl
theorem xGuard_congr {N M:Nat} {ds ws:List Nat} {g:Option (Nat×Bool)} {st:XSt} {yes no yes' no':XSt→Option R} (hy:∀ st1,Fro N M ds ws st st1→yes st1=yes' st1) (hn:∀ st1,Fro N M ds ws st st1→no st1=no' st1):xGuard N g st yes no=xGuard N g st yes' no':=by
 unfold xGuard
 split
 ·exact hy st (Fro.refl st)
 ·split
  ·rename_i c hv
   split
   ·cases c with
    | true=>simp only [cond_true]; exact hy _ (Fro.of (setg_to hv))
    | false=>simp only [cond_false]; exact hn _ (Fro.of (setg_to hv))
   ·cases c with
    | true=>simp only [cond_true]; exact hn _ (Fro.of (setg_to hv))
    | false=>simp only [cond_false]; exact hy _ (Fro.of (setg_to hv))
  ·exact hn st (Fro.refl st)
  ·exact hn st (Fro.refl st)
  ·rfl
  ·exact hn st (Fro.refl st)
  ·rfl
theorem frzOk_tl {wp:List Nat} {N i:Nat} {st:XSt} {t:TT} {l:List t.den} {h:Heap} {n:Nat}:∀ {r:List Nat},frzOk wp N st r=true→frzOk wp N ⟨(i,.tl t l)::st.t,h,n⟩ r=true
 | [],_=>rfl
 | j::r,hk=>by
  simp only [frzOk,Bool.and_eq_true] at hk ⊢
  refine ⟨?_,frzOk_tl hk.2⟩
  by_cases hj:i=j
  ·subst hj
   simp only [evX,lk_cons,if_true]
   split
   ·rename_i hx
    split at hx
    ·cases hx
    ·cases hx
   ·rfl
  ·simp only [evX,lk_cons,if_neg hj]
   exact hk.1
theorem frzXs_congr {N M:Nat} {ds ws:List Nat}:∀ {l:List Nat} {st:XSt} {K K':XSt→Option R},(∀ i ∈ l,i ∈ ds)→frzOk ws N st l=true→(∀ st',Fro N M ds ws st st'→K st'=K' st')→frzXs N M l st K=frzXs N M l st K'
 | [],st,K,K',_,_,h=>h st (Fro.refl st)
 | i::r,st,K,K',hd,hk,h=>by
  simp only [frzOk,Bool.and_eq_true] at hk
  have hdr:∀ j ∈ r,j ∈ ds:=fun j hj=>hd j (List.mem_cons_of_mem _ hj)
  simp only [frzXs]
  unfold frzX
  split
  ·rename_i b s sz off len cap hv
   split
   ·rename_i t l hr
    have hb:b ∈ ws:=by
     have:=hk.1
     rw [hv] at this
     exact inB'_true this
    have s1:Fro N M ds ws st ⟨(i,.tl t ((l.drop off).take len))::st.t,(b,none)::st.h,st.n⟩:=by
     refine ⟨fun j hj=>?_,StayX.cons hb _ _⟩
     simp only [XSt.to,toT_set]
     rw [List.getElem?_set_ne (fun he=>hj (by rw [← he]; exact hd i (by simp)))]
    simp only
    rw [frzXs_congr hdr (frzOk_tl hk.2) (fun st' s'=>h st' (s1.trans s'))]
   ·rfl
  ·exact frzXs_congr hdr hk.2 h
  ·exact frzXs_congr hdr hk.2 h
  ·rfl
theorem setXO_ok {ds:List Nat} {x:XO} (h:setXO ds x=true):(∀ y,x.io.dst=some y→y ∈ ds)∧∀ i ∈ x.fz,i ∈ ds:=by
 unfold setXO at h
 rw [Bool.and_eq_true] at h
 exact ⟨dstIn_ok h.1,fun i hi=>inB'_true (List.all_eq_true.1 h.2 i hi)⟩
theorem xOps_congr {cal:Cal} (hc:CalFr cal) {wp:List Nat} {N M o:Nat} {ds:List Nat}:∀ {ops:List XO} {st:XSt} {K K':XSt→Option R},(ops.all (setXO ds))=true→(∀ st',Fro N M ds wp st st'→K st'=K' st')→xOps cal wp N M o ops st K=xOps cal wp N M o ops st K'
 | [],st,K,K',_,h=>h st (Fro.refl st)
 | x::l,st,K,K',hq,h=>by
  simp only [List.all_cons,Bool.and_eq_true] at hq
  obtain ⟨hd,hf⟩:=setXO_ok hq.1
  have hl:=hq.2
  simp only [xOps]
  split
  ·rename_i hk
   refine frzXs_congr hf hk fun st0 s0=>?_
   refine xGuard_congr (M:=M) (ds:=ds) (ws:=wp) (fun st1 s1=>?_) (fun st1 s1=>?_)
   ·refine xDo_congr hc fun v h' n' hs=>?_
    exact xOps_congr hc hl fun st' s'=>h st' (((s0.trans s1).trans (Fro.put st1 hd v hs)).trans s')
   ·exact xOps_congr hc hl fun st' s'=>h st' (((s0.trans s1).trans (Fro.put st1 hd _ (StayX.refl _ _ _))).trans s')
  ·rfl
theorem xDr_congr {pur:Pur} {wp:List Nat} {N M o:Nat} {ds:List Nat}:∀ {ops:List XO} {st:XSt} {K K':List XSt→Option R},(ops.all (setXO ds))=true→(∀ l,(∀ s,lastX l=some s→Fro N M ds wp st s)→K l=K' l)→xDr pur wp N M o ops st K=xDr pur wp N M o ops st K'
 | [],st,K,K',_,h=>h _ (fun s hs=>by cases hs; exact Fro.refl st)
 | x::l,st,K,K',hq,h=>by
  simp only [List.all_cons,Bool.and_eq_true] at hq
  obtain ⟨hd,hf⟩:=setXO_ok hq.1
  have hl:=hq.2
  simp only [xDr]
  have last:∀ {st':XSt} {m:List XSt},Fro N M ds wp st st'→(∀ s,lastX m=some s→Fro N M ds wp st' s)→∀ s,lastX (st::m)=some s→Fro N M ds wp st s:=by
   intro st' m h1 h2 s hs
   cases m with
   | nil=>cases hs; exact Fro.refl st
   | cons a m=>exact h1.trans (h2 s hs)
  refine xGuard_congr (M:=M) (ds:=ds) (ws:=wp) (fun st1 s1=>?_) (fun st1 s1=>?_)
  ·refine xOneW_congr fun v h' n' hs=>?_
   exact xDr_congr hl fun m hm=>h _ (last (s1.trans (Fro.put st1 hd v hs)) hm)
  ·exact xDr_congr hl fun m hm=>h _ (last (s1.trans (Fro.put st1 hd _ (StayX.refl _ _ _))) hm)
theorem xDraw_congr {pur:Pur} {wp:List Nat} {N M o:Nat} {ds:List Nat} {un:List (Nat×Nat)} {ops:List XO} {st:XSt} {K K':XSt→Option R} (hq:(ops.all (setXO ds))=true) (h:∀ st',Fro N M ds wp st st'→K st'=K' st'):xDraw pur wp N M o un ops st K=xDraw pur wp N M o un ops st K':=by
 unfold xDraw
 split
 ·refine xDr_congr (M:=M) hq fun l hl=>?_
  split
  ·rename_i s _ hs
   exact h s (hl s hs)
  ·rfl
 ·rfl
end Go.Proofs.Yticljphbbdnomaa.VL
end
