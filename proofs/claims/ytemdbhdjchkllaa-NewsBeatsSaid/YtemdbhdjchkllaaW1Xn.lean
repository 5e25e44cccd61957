import Derived.Test.YtemdbhdjchkllaaW1Xm
namespace Go.Proofs.Ytemdbhdjchkllaa.VL
open Go
set_option linter.unusedVariables false
set_option linter.unusedSimpArgs false
set_option linter.unusedSectionVars false
variable [Val]
variable {P:Program}
noncomputable def xDr {R:Type} (pur:Pur) (wp:List Nat) (N M o:Nat):List XO→XSt→(List XSt→Option R)→Option R
 | [],st,K=>K [st]
 | x::r,st,K=>xGuard N x.io.guard st (fun st1=>xOneW pur wp N M o x.a x.ws x.io.op x.io.dst st1 (fun st'=>xDr pur wp N M o r st' fun l=>K (st::l))) (fun st1=>xDr pur wp N M o r (XSt.put st1.t x.io.dst (.k (.v undef)) st1.h st1.n) fun l=>K (st::l))
def StpX (P:Program) (N M o:Nat) (x:XO) (s s':XSt):Prop:=Stp P (x.io.at o) (s.to N M) (s'.to N M)∧∀ l,tgO N o s x=some l→Stay l (s.to N M).h (s'.to N M).h
theorem put_h (st:St) (d:Option Nat) (p:PV):(st.put d p).h=st.h:=by cases d<;>rfl
theorem stp_yes {pur:Pur} (hpur:PurOk P pur) {wp:List Nat} {N M o:Nat} {x:XO} {st st1:XSt} {R:Type} {K:XSt→Option R} {r:R} (hcls:(x.io.op.at o).cls≤2) (he:st1.to N M=st.to N M) (hev:evX N st1.t=evX N st.t) (hg:guardYes (x.io.at o) (st.to N M)) (hk:xOneW pur wp N M o x.a x.ws x.io.op x.io.dst st1 K=some r) :
  ∃ st',K st'=some r∧StpX P N M o x st st':=by
 have hargs:∀ args:List Opd,toPVL (args.map (evX N st1.t))=args.map (st.to N M).ev:=by
  intro args
  rw [toPVL_map,List.map_map,← he,← evX_eq N M st1]; rfl
 have htgt:tgX N st (x.io.op.at o)=tgX N st1 (x.io.op.at o):=by
  generalize x.io.op.at o=op
  cases op<;>simp only [tgX,hev]
 have pure:∀ {f:Nat} {args:List PV} {v:XV},VPure P f args v.toPV→K (XSt.put st1.t x.io.dst v st1.h st1.n)=some r →
   (∀ K':QP,(∀ h n,GCall P f args h n v.toPV h n→K' v.toPV h n→rawK P (st.to N M).ev h n K' (x.io.op.at o)))→∃ st',K st'=some r∧StpX P N M o x st st':=by
  intro f args v hv hk hraw
  refine ⟨_,hk,.inl ⟨hg,v.toPV,(st.to N M).h,(st.to N M).n,?_,fun K' hK'=>hraw K' _ _ (gcall_of_pure hv _ _) hK',fun _=>⟨rfl,rfl⟩,fun _ h2 n2 K' hK'=>hraw K' _ _ (gcall_of_pure hv _ _) hK'⟩,fun l _=>?_⟩
  ·rw [put_to]
   have:(⟨toT N st1.t,toH M st1.h,st1.n⟩:St)=st.to N M:=he
   rw [this]; rfl
  ·rw [put_to,put_h]
   have:(⟨toT N st1.t,toH M st1.h,st1.n⟩:St)=st.to N M:=he
   rw [this]; exact Stay.refl _ _
 unfold xOneW at hk
 split at hk
 case h_2 w0 r0 hws =>
  split at hk
  case h_3=>cases hk
  case h_2 =>
   rename_i s y args hop
   split at hk
   case h_2=>cases hk
   split at hk
   case h_2=>cases hk
   rename_i f fs cs hy
   obtain ⟨v,h',n',hk,hG,hS⟩:=hpur.g _ _ _ _ _ _ _ _ _ _ hk
   rw [toPVL_append,toPVL_append,hargs] at hG
   have hcl:(st.to N M).ev y=.clo f (toPVL fs) (toPVL cs):=by
    rw [← he,← evX_eq N M st1]; simp only [rp,hy,XV.toPV]
   have e1:toH M st1.h=(st.to N M).h:=by rw [← he]; rfl
   have e2:st1.n=(st.to N M).n:=by rw [← he]; rfl
   rw [e1,e2] at hG
   refine ⟨_,hk,.inl ⟨hg,v.toPV,toH M h',n',?_,fun K' hK'=>?_,fun hc=>?_,fun hc=>?_⟩,fun l hl=>?_⟩
   ·rw [put_to,← he]; rfl
   ·rw [show (x.io.at o).op=x.io.op.at o from rfl,hop]
    show (match (st.to N M).ev y with | .clo f fs cs=>∃ r h' n',GCall P f (fs++args.map (st.to N M).ev++cs) (st.to N M).h (st.to N M).n r h' n'∧K' r h' n' | _=>False)
    rw [hcl]
    exact ⟨v.toPV,_,_,hG,hK'⟩
   ·rw [show (x.io.at o).op=x.io.op.at o from rfl,hop] at hc; simp [IOp.at,IOp.cls] at hc
   ·rw [show (x.io.at o).op=x.io.op.at o from rfl,hop] at hc; simp [IOp.at,IOp.cls] at hc
   ·rw [put_to,put_h]
    unfold tgO at hl
    rw [hws] at hl
    cases hl
    intro b hb
    have:=hS b hb
    rw [← e1]; exact this
  rename_i s f args hop
  split at hk
  case h_2=>cases hk
  obtain ⟨v,h',n',hk,hG,hS⟩:=hpur.g _ _ _ _ _ _ _ _ _ _ hk
  rw [hargs] at hG
  have e1:toH M st1.h=(st.to N M).h:=by rw [← he]; rfl
  have e2:st1.n=(st.to N M).n:=by rw [← he]; rfl
  rw [e1,e2] at hG
  refine ⟨_,hk,.inl ⟨hg,v.toPV,toH M h',n',?_,fun K' hK'=>?_,fun hc=>?_,fun hc=>?_⟩,fun l hl=>?_⟩
  ·rw [put_to,← he]; rfl
  ·rw [show (x.io.at o).op=x.io.op.at o from rfl,hop]; exact ⟨v.toPV,_,_,hG,hK'⟩
  ·rw [show (x.io.at o).op=x.io.op.at o from rfl,hop] at hc; simp [IOp.at,IOp.cls] at hc
  ·rw [show (x.io.at o).op=x.io.op.at o from rfl,hop] at hc; simp [IOp.at,IOp.cls] at hc
  ·rw [put_to,put_h]
   unfold tgO at hl
   rw [hws] at hl
   cases hl
   intro b hb
   have:=hS b hb
   rw [← e1]; exact this
 rename_i hws
 have htg:∀ l,tgO N o st x=some l ↔ tgX N st (x.io.op.at o)=some l:=by
  intro l; unfold tgO; rw [hws]
 unfold xOne at hk
 split at hk
 ·rename_i s f args hop
  obtain ⟨v,hk,hv⟩:=hpur.p _ _ _ _ _ hk
  rw [hargs] at hv
  refine pure hv hk ?_
  intro K' h n hG hK'
  rw [hop]
  exact ⟨v.toPV,hv,hK'⟩
 ·rename_i s f args hop
  obtain ⟨v,hk,hv⟩:=hpur.p _ _ _ _ _ hk
  rw [hargs] at hv
  refine pure hv hk ?_
  intro K' h n hG hK'
  rw [hop]
  exact ⟨v.toPV,h,n,hG,hK'⟩
 ·rename_i s y args hop
  split at hk
  ·rename_i f fs cs hy
   obtain ⟨v,hk,hv⟩:=hpur.p _ _ _ _ _ hk
   rw [toPVL_append,toPVL_append,hargs] at hv
   have hcl:(st.to N M).ev y=.clo f (toPVL fs) (toPVL cs):=by
    rw [← he,← evX_eq N M st1]; simp only [rp,hy,XV.toPV]
   refine pure hv hk ?_
   intro K' h n hG hK'
   rw [hop]
   show (match (st.to N M).ev y with | .clo f fs cs=>∃ r,VPure P f (fs++args.map (st.to N M).ev++cs) r∧K' r h n | _=>False)
   rw [hcl]
   exact ⟨v.toPV,hv,hK'⟩
  ·cases hk
 ·rename_i s y args hop
  split at hk
  ·rename_i f fs cs hy
   obtain ⟨v,hk,hv⟩:=hpur.p _ _ _ _ _ hk
   rw [toPVL_append,toPVL_append,hargs] at hv
   have hcl:(st.to N M).ev y=.clo f (toPVL fs) (toPVL cs):=by
    rw [← he,← evX_eq N M st1]; simp only [rp,hy,XV.toPV]
   refine pure hv hk ?_
   intro K' h n hG hK'
   rw [hop]
   show (match (st.to N M).ev y with | .clo f fs cs=>∃ r h' n',GCall P f (fs++args.map (st.to N M).ev++cs) h n r h' n'∧K' r h' n' | _=>False)
   rw [hcl]
   exact ⟨v.toPV,h,n,hG,hK'⟩
  ·cases hk
 ·rename_i h1 h2 h3 h4
  split at hk
  case h_2=>cases hk
  have O:OkK false M (fun v h n=>K (XSt.put st1.t x.io.dst v h n)) r (fun p h n=>∃ st',K st'=some r∧st'.to N M=St.put ⟨(st.to N M).t,h,n⟩ x.io.dst p):=by
   refine ⟨fun {v h n} hk=>⟨_,hk,?_⟩,fun h=>by cases h⟩
   rw [put_to,← he]; rfl
  have hh:=xOp_snd x.a (x.io.op.at o) _ r _ hk O
  rw [evX_eq N M st1,he] at hh
  have e1:toH M st1.h=(st.to N M).h:=by rw [← he]; rfl
  have e2:st1.n=(st.to N M).n:=by rw [← he]; rfl
  rw [e1,e2] at hh
  have raw:∀ K':QP,rawK P (st.to N M).ev (st.to N M).h (st.to N M).n K' (x.io.op.at o) ↔ opK (st.to N M).ev (st.to N M).h (st.to N M).n K' (x.io.op.at o):=by
   intro K'
   generalize hop:x.io.op=op at h1 h2 h3 h4
   cases op<;>first | exact Iff.rfl | (exact absurd rfl (h1 _ _ _)) | (exact absurd rfl (h2 _ _ _)) | (exact absurd rfl (h3 _ _ _)) | (exact absurd rfl (h4 _ _ _))
  have hh2:=(raw _).2 hh
  obtain ⟨p,h',n',⟨st',k1,k2⟩,k3,k4,k5⟩:=rawK_det hcls hh2
  refine ⟨st',k1,.inl ⟨hg,p,h',n',k2,k3,k4,k5⟩,fun l hl=>?_⟩
  have h6:=(raw _).1 (k3 (fun p2 h2 n2=>h2=h') rfl)
  obtain ⟨_,h2,_,hq,hst⟩:=opK_stay (M:=M) ((htg l).1 hl) h6
  rw [k2,put_h]
  show Stay l (st.to N M).h h'
  rw [← hq]; exact hst
theorem setg_ev {N:Nat} {st:XSt} {g:Nat} {c:Bool} (hv:evX N st.t (.t g)=.b c):evX N ((g,.b c)::st.t)=evX N st.t:=by
 funext y
 cases y with
 | c p=>rfl
 | t i =>
  by_cases hi:g=i
  ·subst hi
   simp only [evX,lk_cons,if_true] at hv ⊢
   split at hv
   ·exact hv.symm
   ·cases hv
  ·simp only [evX,lk_cons,if_neg hi]
theorem setg_to {N M:Nat} {st:XSt} {g:Nat} {c:Bool} (hv:evX N st.t (.t g)=.b c):(⟨(g,.b c)::st.t,st.h,st.n⟩:XSt).to N M=st.to N M:=by
 simp only [XSt.to,toT_set,XV.toPV]
 congr 1
 simp only [evX] at hv
 split at hv
 ·rename_i hb
  have hlt:g < N:=Nat.le_of_ble_eq_true hb
  split at hv
  ·rename_i z hz
   subst hv
   apply List.ext_getElem?
   intro j
   rw [List.getElem?_set]
   by_cases hj:g=j
   ·subst hj
    rw [if_pos rfl,if_pos (by rw [toT_len]; exact hlt)]
    simp only [toT,List.getElem?_map,List.getElem?_range hlt,Option.map_some,hz,Option.getD_some,XV.toPV]
   ·rw [if_neg hj]
  ·cases hv
 ·cases hv
theorem guard_cases {N M:Nat} {x:IOper} {st:XSt} {R:Type} {yes no:XSt→Option R} {r:R} (hk:xGuard N x.guard st yes no=some r) :
  (∃ st1,st1.to N M=st.to N M∧evX N st1.t=evX N st.t∧guardYes x (st.to N M)∧yes st1=some r)∨(∃ st1,st1.to N M=st.to N M∧evX N st1.t=evX N st.t∧guardNo x (st.to N M)∧no st1=some r):=by
 unfold xGuard at hk
 split at hk
 ·rename_i hg
  exact .inl ⟨st,rfl,rfl,by simp [guardYes,hg],hk⟩
 ·rename_i g want hg
  have getg:∀ {y:XV},evX N st.t (.t g)=y→y≠.dead→(st.to N M).t[g]?=some y.toPV:=by
   intro y hy hd
   simp only [evX] at hy
   split at hy
   ·rename_i hi
    have hi:g < N:=Nat.le_of_ble_eq_true hi
    split at hy
    ·rename_i z hz
     subst hy
     simp only [XSt.to,toT,List.getElem?_map,List.getElem?_range hi,Option.map_some,hz,Option.getD_some]
    ·exact absurd hy.symm hd
   ·exact absurd hy.symm hd
  split at hk
  ·rename_i c hv
   have hb:=getg hv (by simp)
   split at hk
   ·rcases cond_some hk with ⟨rfl,hk⟩ | ⟨rfl,hk⟩
    ·exact .inl ⟨_,setg_to hv,setg_ev hv,by simp only [guardYes,hg]; exact .inl hb,hk⟩
    ·exact .inr ⟨_,setg_to hv,setg_ev hv,by simp only [guardNo,hg]; exact .inl ⟨_,hb,by simp⟩,hk⟩
   ·rcases cond_some hk with ⟨rfl,hk⟩ | ⟨rfl,hk⟩
    ·exact .inr ⟨_,setg_to hv,setg_ev hv,by simp only [guardNo,hg]; exact .inl ⟨_,hb,by simp⟩,hk⟩
    ·exact .inl ⟨_,setg_to hv,setg_ev hv,by simp only [guardYes,hg]; exact .inl hb,hk⟩
  ·rename_i k m hv
   have hb:=getg hv (by simp)
   exact .inr ⟨st,rfl,rfl,by simp only [guardNo,hg]; exact .inl ⟨_,hb,by simp⟩,hk⟩
  ·rename_i m hv
   have hb:=getg hv (by simp)
   exact .inr ⟨st,rfl,rfl,by simp only [guardNo,hg]; exact .inl ⟨_,hb,by simp⟩,hk⟩
  ·cases hk
  ·rename_i u hu hv
   have hb:=getg hv (by simp)
   exact .inr ⟨st,rfl,rfl,by simp only [guardNo,hg]; exact .inl ⟨u,hb,fun h=>hu want h⟩,hk⟩
  ·cases hk
theorem xDr_ok {pur:Pur} (hpur:PurOk P pur) {wp:List Nat} {N M o:Nat} {R:Type} {r:R}:∀ (xs:List XO) (st:XSt) (K:List XSt→Option R),(∀ x ∈ xs,(x.io.op.at o).cls≤2)→xDr pur wp N M o xs st K=some r →
  ∃ l:List XSt,K (st::l)=some r∧l.length=xs.length∧∀ (i:Nat) (x:XO) (s s':XSt),xs[i]?=some x→(st::l)[i]?=some s→(st::l)[i+1]?=some s'→StpX P N M o x s s'
 | [],st,K,_,h=>⟨[],h,rfl,fun i x s s' hx=>by simp at hx⟩
 | x::xs,st,K,hc,h=>by
  simp only [xDr] at h
  have next:∀ st',StpX P N M o x st st'→xDr pur wp N M o xs st' (fun l=>K (st::l))=some r→∃ l:List XSt,K (st::l)=some r∧l.length=(x::xs).length∧∀ (i:Nat) (y:XO) (s s':XSt),(x::xs)[i]?=some y→(st::l)[i]?=some s→(st::l)[i+1]?=some s'→StpX P N M o y s s':=by
   intro st' hst h
   obtain ⟨l,h1,h2,h3⟩:=xDr_ok hpur xs st' _ (fun y hy=>hc y (List.mem_cons_of_mem _ hy)) h
   refine ⟨st'::l,h1,by simp [h2],fun i y s s' hy hs hs'=>?_⟩
   cases i with
   | zero =>
    simp at hy hs hs'
    subst hy hs hs'
    exact hst
   | succ i =>
    simp only [List.getElem?_cons_succ] at hy hs hs'
    exact h3 i y s s' hy hs (by simpa using hs')
  rcases guard_cases (M:=M) h with ⟨st1,e1,e2,hg,hk⟩ | ⟨st1,e1,e2,hg,hk⟩
  ·obtain ⟨st',hk,hst⟩:=stp_yes hpur (hc x (by simp)) e1 e2 hg hk
   exact next st' hst hk
  ·refine next _ ⟨.inr ⟨hg,?_⟩,fun l _=>?_⟩ hk
   ·rw [put_to,← e1]; rfl
   ·rw [put_to,put_h,← e1]; exact Stay.refl _ _
def adX (N:Nat) (st:XSt):IOp→Option Nat
 | .load _ _ a=>(match evX N st.t a with | .optr b _ _ _=>some b | _=>none)
 | _=>none
def isSp (N:Nat) (st:XSt):IOp→Bool
 | .load _ _ a=>(match evX N st.t a with | .sptr _=>true | .k (.v _)=>true | _=>false)
 | _=>false
def keep1 (N o:Nat) (xs:List XO) (l:List XSt) (p:Nat×Nat):Bool:=match xs[p.1]?,l[p.1]?,xs[p.2]?,l[p.2]? with
 | some x,some s,some y,some s1=>isSp N s (x.io.op.at o) || (match adX N s (x.io.op.at o),tgO N o s1 y with
  | some b,some t=>!inB' t b
  | _,_=>false)
 | _,_,_,_=>false
theorem inB'_mem:∀ {l:List Nat} {b:Nat},inB' l b=false→b ∉ l
 | [],b,_=>by simp
 | x::r,b,h=>by
  simp only [inB'] at h
  split at h
  ·cases h
  ·rename_i hx
   intro hm
   rcases List.mem_cons.1 hm with rfl | hm
   ·rw [Nat.beq_refl] at hx; cases hx
   ·exact inB'_mem h hm
theorem keep1_ok {N M o:Nat} {xs:List XO} {l:List XSt} {p:Nat×Nat} (hl:l.length=xs.length+1) (hs:∀ (i:Nat) (x:XO) (s s':XSt),xs[i]?=some x→l[i]?=some s→l[i+1]?=some s'→StpX P N M o x s s') (h:keep1 N o xs l p=true)
  {x:XO} (hx:xs[p.1]?=some x) {s s1 s2:XSt} (h0:l[p.1]?=some s) (h1:l[p.2]?=some s1) (h2:l[p.2+1]?=some s2):peekOp (s.to N M).ev (s1.to N M).h (x.io.op.at o)=peekOp (s.to N M).ev (s2.to N M).h (x.io.op.at o):=by
 unfold keep1 at h
 rw [hx,h0,h1] at h
 split at h
 ·rename_i x' s' y s1' e1 e2 e3 e4
  cases e1; cases e2; cases e4
  rw [← evX_eq N M s]
  rw [Bool.or_eq_true] at h
  rcases h with h | h
  ·unfold isSp at h
   split at h
   ·rename_i g m a hop
    split at h
    ·rename_i cs hv
     rw [hop]
     simp only [peekOp,rp,hv,XV.toPV]
    ·rename_i cs hv
     rw [hop]
     simp only [peekOp,rp,hv,XV.toPV]
    ·cases h
   ·cases h
  ·split at h
   ·rename_i b t hb ht
    have hst:=(hs p.2 y s1 s2 e3 h1 h2).2 t ht
    have hne:b ∉ t:=inB'_mem (by simpa using h)
    unfold adX at hb
    split at hb
    ·rename_i g m a hop
     split at hb
     ·rename_i b' s0 i off hv
      cases hb
      rw [hop]
      simp only [peekOp,rp,hv,XV.toPV,hst b hne]
     ·cases hb
    ·cases hb
   ·cases h
 ·cases h
def dstB (N:Nat) (xs:List XO):Bool:=xs.all fun x=>match x.io.dst with | some d=>Nat.blt d N | none=>true
def clsB (o:Nat) (xs:List XO):Bool:=xs.all fun x=>Nat.ble (x.io.op.at o).cls 2
def lastX:List XSt→Option XSt
 | []=>none
 | [s]=>some s
 | _::r=>lastX r
theorem lastX_get:∀ {l:List XSt} {s:XSt},lastX l=some s→l[l.length - 1]?=some s
 | [],s,h=>by cases h
 | [a],s,h=>by cases h; rfl
 | a::b::r,s,h=>by
  have:=lastX_get (l:=b::r) h
  simpa using this
noncomputable def xDraw {R:Type} (pur:Pur) (wp:List Nat) (N M o:Nat) (un:List (Nat×Nat)) (xs:List XO) (st:XSt) (K:XSt→Option R):Option R:=match dstB N xs&&clsB o xs with
 | true=>xDr pur wp N M o xs st fun l=>(match un.all (keep1 N o xs l),lastX l with
  | true,some s=>K s
  | _,_=>none)
 | false=>none
theorem xDraw_ok {pur:Pur} (hpur:PurOk P pur) {wp:List Nat} {N M o:Nat} {un:List (Nat×Nat)} {xs:List XO} {st:XSt} {R:Type} {K:XSt→Option R} {r:R} (hk:xDraw pur wp N M o un xs st K=some r) :
  ∃ (S:Nat→St) (s:XSt),S 0=st.to N M∧K s=some r∧S xs.length=s.to N M∧(∀ (i:Nat) (io:IOper),(xs.map fun x=>x.io.at o)[i]?=some io→Stp P io (S i) (S (i+1)))∧Keeps (xs.map fun x=>x.io.at o) un S ∧
   (∀ io ∈ (xs.map fun x=>x.io.at o),∀ d,io.dst=some d→d < (st.to N M).t.length)∧(∀ io ∈ (xs.map fun x=>x.io.at o),io.op.cls≤2):=by
 unfold xDraw at hk
 split at hk
 ·rename_i hb
  rw [Bool.and_eq_true] at hb
  have hcls:∀ x ∈ xs,(x.io.op.at o).cls≤2:=fun x hx=>Nat.le_of_ble_eq_true (List.all_eq_true.1 hb.2 x hx)
  obtain ⟨l,h1,h2,h3⟩:=xDr_ok (M:=M) hpur xs st _ hcls hk
  split at h1
  ·rename_i s hun hlast
   have hl:(st::l).length=xs.length+1:=by simp [h2]
   have hlast:=lastX_get hlast
   rw [hl] at hlast
   simp only [Nat.add_sub_cancel] at hlast
   let S:Nat→St:=fun i=>match (st::l)[i]? with | some s=>s.to N M | none=>st.to N M
   have hS:∀ {i:Nat} {s:XSt},(st::l)[i]?=some s→S i=s.to N M:=by
    intro i s hi
    simp only [S,hi]
   refine ⟨S,s,rfl,h1,hS hlast,?_,?_,?_,?_⟩
   ·intro i io hio
    rw [List.getElem?_map] at hio
    simp only [Option.map_eq_some_iff] at hio
    obtain ⟨x,hx,rfl⟩:=hio
    have hlt:=(List.getElem?_eq_some_iff.1 hx).1
    have g1:(st::l)[i]?=some (st::l)[i]:=List.getElem?_eq_getElem (by omega)
    have g2:(st::l)[i+1]?=some (st::l)[i+1]:=List.getElem?_eq_getElem (by omega)
    rw [hS g1,hS g2]
    exact (h3 i x _ _ hx g1 g2).1
   ·intro p hp io hio
    rw [List.getElem?_map] at hio
    simp only [Option.map_eq_some_iff] at hio
    obtain ⟨x,hx,rfl⟩:=hio
    have hkp:=List.all_eq_true.1 hun p hp
    have hlt1:=(List.getElem?_eq_some_iff.1 hx).1
    have hlt2:p.2 < xs.length:=by
     unfold keep1 at hkp
     split at hkp
     ·rename_i e3 _
      exact (List.getElem?_eq_some_iff.1 e3).1
     ·cases hkp
    have g0:(st::l)[p.1]?=some (st::l)[p.1]:=List.getElem?_eq_getElem (by omega)
    have g1:(st::l)[p.2]?=some (st::l)[p.2]:=List.getElem?_eq_getElem (by omega)
    have g2:(st::l)[p.2+1]?=some (st::l)[p.2+1]:=List.getElem?_eq_getElem (by omega)
    rw [hS g0,hS g1,hS g2]
    exact keep1_ok (P:=P) hl h3 hkp hx g0 g1 g2
   ·intro io hio d hd
    rw [List.mem_map] at hio
    obtain ⟨x,hx,rfl⟩:=hio
    have:=List.all_eq_true.1 hb.1 x hx
    have hd:x.io.dst=some d:=hd
    rw [hd] at this
    simp only [XSt.to,toT_len]
    exact Nat.le_of_ble_eq_true this
   ·intro io hio
    rw [List.mem_map] at hio
    obtain ⟨x,hx,rfl⟩:=hio
    exact hcls x hx
  ·cases h1
 ·cases hk
end Go.Proofs.Ytemdbhdjchkllaa.VL
