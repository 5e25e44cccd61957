import Derived.Test.YticljphbbdnomaaW1Xg
section
namespace Go.Proofs.Yticljphbbdnomaa.VL
open Go
set_option linter.unusedVariables false
set_option linter.unusedSimpArgs false
set_option linter.unusedSectionVars false
variable [Val]
@[reducible] def DT:Option Type→Type
 | none=>Unit
 | some A=>A
@[reducible] def dP:Option Type→Option Type→Option Type
 | none,y=>y
 | some A,none=>some A
 | some A,some B=>some (A×B)
def dMk:(x y:Option Type)→DT x→DT y→DT (dP x y)
 | none,_,_,b=>b
 | some _,none,a,_=>a
 | some _,some _,a,b=>(a,b)
def dFst:(x y:Option Type)→DT (dP x y)→DT x
 | none,_,_=>()
 | some _,none,a=>a
 | some _,some _,p=>p.1
def dSnd:(x y:Option Type)→DT (dP x y)→DT y
 | none,_,b=>b
 | some _,none,_=>()
 | some _,some _,p=>p.2
theorem dFst_mk:∀ (x y:Option Type) (a:DT x) (b:DT y),dFst x y (dMk x y a b)=a
 | none,none,_,_=>rfl
 | none,some _,_,_=>rfl
 | some _,none,_,_=>rfl
 | some _,some _,_,_=>rfl
theorem dSnd_mk:∀ (x y:Option Type) (a:DT x) (b:DT y),dSnd x y (dMk x y a b)=b
 | none,none,_,_=>rfl
 | none,some _,_,_=>rfl
 | some _,none,_,_=>rfl
 | some _,some _,_,_=>rfl
inductive Fm where
 | v (t:TT)
 | ow (b sz:Nat)
 | oc (b sz:Nat)
 | op (b sz:Nat)
 | ptr (b off:Nat)
 | pix (b off:Nat)
 | clo (f:Nat) (fs cs:Fm)
 | agg (cs:Fm)
 | tup (cs:Fm)
 | mp (b:Nat)
 | nil
 | dead
 | no
 | co (f r:Fm)
 deriving Inhabited
@[reducible] def Fm.den:Fm→Option Type
 | .v t=>some t.den
 | .ow ..=>none
 | .oc ..=>none
 | .op ..=>some (Nat×Nat)
 | .ptr ..=>none
 | .pix ..=>some Nat
 | .clo _ fs cs=>dP fs.den cs.den
 | .agg cs=>cs.den
 | .tup cs=>cs.den
 | .mp _=>none
 | .nil=>none
 | .dead=>none
 | .no=>none
 | .co f r=>dP f.den r.den
inductive BF where
 | row (f:Fm)
 | rows (t:TT) (sz:Nat)
 | map (kt vt:TT)
 | iter
@[reducible] def BF.den:BF→Option Type
 | .row f=>f.den
 | .rows t _=>some (List t.den)
 | .map kt vt=>some (List (kt.den×vt.den))
 | .iter=>some (ByteArray×Nat)
structure SlF where
 b:Nat
 f:BF
 k:Bool
structure Sh where
 fz:List Nat
 t:List (Nat×Fm)
 h:List SlF
@[reducible] def denT:List (Nat×Fm)→Option Type
 | []=>none
 | x::r=>dP x.2.den (denT r)
@[reducible] def denH:List SlF→Option Type
 | []=>none
 | x::r=>dP x.f.den (denH r)
@[reducible] def Sh.den (sh:Sh):Type:=DT (dP (denT sh.t) (denH sh.h))
def inB':List Nat→Nat→Bool
 | [],_=>false
 | x::r,b=>match Nat.beq x b with | true=>true | false=>inB' r b
def stOf (fh:Heap) (base:Nat) (x:SlF):Option Nat:=match x.k with
 | true=>(match lkS fh x.b with | some y=>some y.1 | none=>none)
 | false=>some (base+x.b)
def oldS (fh:Heap) (M:Nat) (ws:List Nat) (b:Nat):Option Nat:=match Nat.blt b M&&!inB' ws b with
 | true=>(match lkS fh b with | some y=>some y.1 | none=>none)
 | false=>none
def nsOf (fh:Heap) (base M:Nat) (ws:List Nat):List SlF→Nat→Option Nat
 | [],b=>oldS fh M ws b
 | x::r,b=>match Nat.beq x.b b with | true=>stOf fh base x | false=>nsOf fh base M ws r b
def nsD (fh:Heap) (base M:Nat) (ws:List Nat) (l:List SlF) (b:Nat):Nat:=match nsOf fh base M ws l b with | some s=>s | none=>base+b
def hasB:List SlF→Nat→Bool
 | [],_=>false
 | x::r,b=>match Nat.beq x.b b with | true=>true | false=>hasB r b
def nwB:List SlF→Nat→Bool
 | [],_=>false
 | x::r,b=>match Nat.beq x.b b with | true=>!x.k | false=>nwB r b
structure CEnv where
 fz:List Nat
 M:Nat
 h:Heap
 ns:Nat→Option Nat
 sz:Nat→Nat
def cutC (c:CEnv):(t:TT)→List XV→Option (t.den×List XV×List Bool)
 | .i k,x::r=>(match x with | .i k' n=>(match ikB k' k with | true=>some (n,r,[]) | false=>none) | _=>none)
 | .b,x::r=>(match x with | .b y=>some (y,r,[]) | _=>none)
 | .s,x::r=>(match x with | .s y=>some (y,r,[]) | _=>none)
 | .sl t,x::r=>(match x with
  | .tl t' l=>(match castL t' t l with | some l=>some (l,r,[]) | none=>none)
  | .xl cl es=>(match collEs (coll true t) es with | some l=>some (l,r,[]) | none=>none)
  | .own b s _ off len _=>(match inB' c.fz b,rd c.M c.h b s with
   | true,some (.rows t' l)=>(match castL t' t l with | some l=>some ((l.drop off).take len,r,[decide (off+len≤l.length)]) | none=>none)
   | _,_=>none)
  | _=>none)
 | .p x y,cs=>(match cutC c x cs with
  | some (a,r,g)=>(match cutC c y r with | some (b,r',g')=>some ((a,b),r',g++g') | none=>none)
  | none=>none)
 | _,_=>none
def cutV (c:CEnv) (t:TT) (x:XV):Option (t.den×List Bool):=match t with
 | .ar t'=>(match x with | .arr t'' l=>(match castL t'' t' l with | some l=>some (l,[]) | none=>none) | _=>none)
 | t=>(match notArr x&&eqBB (isAggX x) (isAggTT t) with | true=>(match cutC c t x.cells with | some (v,[],g)=>some (v,g) | _=>none) | false=>none)
def isNone' {α:Type}:Option α→Bool
 | none=>true
 | some _=>false
def ownAt (c:CEnv) (b:Nat) (b' s':Nat):Option XBlk:=match Nat.beq b b'&&!isNone' (c.ns b) with
 | true=>rd c.M c.h b s'
 | false=>none
def cutW (c:CEnv) (b sz:Nat) (x:XV):Option (List Bool):=match x with
 | .own b' s' sz' off len none=>(match ownAt c b b' s',Nat.beq sz sz'&&Nat.beq off 0 with
  | some (.rows _ l),true=>some [decide (len=l.length)]
  | _,_=>none)
 | .xl true []=>(match isNone' (lkS c.h b)&&(!isNone' (c.ns b)&&Nat.beq sz (c.sz b)) with | true=>some [] | false=>none)
 | _=>none
def cutO (c:CEnv) (b sz:Nat) (x:XV):Option (List Bool):=match x with
 | .own b' s' sz' off len (some k)=>(match ownAt c b b' s',Nat.beq sz sz'&&Nat.beq off 0 with
  | some (.rows _ l),true=>some [decide (len=l.length),decide (k=l.length)]
  | _,_=>none)
 | _=>none
def cutP (c:CEnv) (b sz:Nat) (x:XV):Option ((Nat×Nat)×List Bool):=match x with
 | .own b' s' sz' off len none=>(match ownAt c b b' s',Nat.beq sz sz' with
  | some _,true=>some ((off,len),[])
  | _,_=>none)
 | _=>none
def cutPtr (c:CEnv) (b off:Nat) (xs:List XV):Option (List Bool):=match xs with
 | [.optr b' s' i off']=>(match ownAt c b b' s',Nat.beq i 0&&Nat.beq off off' with | some _,true=>some [] | _,_=>none)
 | _=>none
def cutPix (c:CEnv) (b off:Nat) (xs:List XV):Option (Nat×List Bool):=match xs with
 | [.optr b' s' i off']=>(match ownAt c b b' s',Nat.beq off off' with | some _,true=>some (i,[]) | _,_=>none)
 | _=>none
def cutMp (c:CEnv) (b:Nat) (xs:List XV):Option (List Bool):=match xs with
 | [.mp b' s']=>(match ownAt c b b' s' with | some _=>some [] | none=>none)
 | _=>none
def isNilX (xs:List XV):Option (List Bool):=match xs with
 | [.xl true []]=>some []
 | _=>none
def oneX (xs:List XV):Option XV:=match xs with
 | [x]=>some x
 | _=>none
def noX (xs:List XV):Option (List Bool):=match xs with
 | []=>some []
 | _=>none
def aggX (xs:List XV):Option (List XV):=match xs with
 | [.agg cs]=>some cs
 | _=>none
def tupX (xs:List XV):Option (List XV):=match xs with
 | [.tup cs]=>some cs
 | _=>none
def cloX (f:Nat) (xs:List XV):Option (List XV×List XV):=match xs with
 | [.clo f' fs cs]=>(match Nat.beq f f' with | true=>some (fs,cs) | false=>none)
 | _=>none
def unitG:Option (List Bool)→Option (Unit×List Bool)
 | some g=>some ((),g)
 | none=>none
def pairG (x y:Option Type):Option (DT x×List Bool)→Option (DT y×List Bool)→Option (DT (dP x y)×List Bool)
 | some a,some b=>some (dMk x y a.1 b.1,a.2++b.2)
 | _,_=>none
def bnd1 {α β:Type} (o:Option α) (k:α→Option β):Option β:=match o with
 | some a=>k a
 | none=>none
def cutF (c:CEnv):(f:Fm)→List XV→Option (DT f.den×List Bool)
 | .v t,xs=>bnd1 (oneX xs) (cutV c t)
 | .ow b sz,xs=>unitG (bnd1 (oneX xs) (cutW c b sz))
 | .oc b sz,xs=>unitG (bnd1 (oneX xs) (cutO c b sz))
 | .op b sz,xs=>bnd1 (oneX xs) (cutP c b sz)
 | .ptr b off,xs=>unitG (cutPtr c b off xs)
 | .pix b off,xs=>cutPix c b off xs
 | .clo f fs cs,xs=>bnd1 (cloX f xs) fun p=>pairG _ _ (cutF c fs p.1) (cutF c cs p.2)
 | .agg cs,xs=>bnd1 (aggX xs) (cutF c cs)
 | .tup cs,xs=>bnd1 (tupX xs) (cutF c cs)
 | .mp b,xs=>unitG (cutMp c b xs)
 | .nil,xs=>unitG (isNilX xs)
 | .dead,xs=>unitG (bnd1 (oneX xs) fun _=>some [])
 | .no,xs=>unitG (noX xs)
 | .co f r,xs=>(match xs with
  | x::xs=>pairG _ _ (cutF c f [x]) (cutF c r xs)
  | []=>none)
structure XEnv where
 ns:Nat→Nat
 ln:Nat→Nat
def expF (e:XEnv):(f:Fm)→DT f.den→List XV
 | .v t,v=>[expand t v]
 | .ow b sz,_=>[.own b (e.ns b) sz 0 (e.ln b) none]
 | .oc b sz,_=>[.own b (e.ns b) sz 0 (e.ln b) (some (e.ln b))]
 | .op b sz,(v:Nat×Nat)=>[.own b (e.ns b) sz v.1 v.2 none]
 | .ptr b off,_=>[.optr b (e.ns b) 0 off]
 | .pix b off,(v:Nat)=>[.optr b (e.ns b) v off]
 | .clo f fs cs,v=>[.clo f (expF e fs (dFst _ _ v)) (expF e cs (dSnd _ _ v))]
 | .agg cs,v=>[.agg (expF e cs v)]
 | .tup cs,v=>[.tup (expF e cs v)]
 | .mp b,_=>[.mp b (e.ns b)]
 | .nil,_=>[.xl true []]
 | .dead,_=>[.dead]
 | .no,_=>[]
 | .co f r,v=>expF e f (dFst _ _ v)++expF e r (dSnd _ _ v)
def hdX:List XV→XV
 | x::_=>x
 | []=>.dead
def rowsB:XBlk→Nat
 | .rows _ l=>l.length
 | .row _=>1
 | _=>0
def lnOf (fh:Heap):(l:List SlF)→DT (denH l)→Nat→Nat
 | [],_,b=>(match lkS fh b with | some y=>rowsB y.2 | none=>0)
 | x::r,v,b=>match Nat.beq x.b b with
  | true=>(match x.f,(dFst x.f.den (denH r) v) with | .rows t _,(l:List t.den)=>l.length | _,_=>0)
  | false=>lnOf fh r (dSnd x.f.den (denH r) v) b
def expB (e:XEnv):(f:BF)→DT f.den→XBlk
 | .row f,v=>.row (hdX (expF e f v))
 | .rows t _,(v:List t.den)=>.rows t v
 | .map kt vt,(v:List (kt.den×vt.den))=>.map kt vt v
 | .iter,(v:ByteArray×Nat)=>.iter v.1 v.2
def expH (e:XEnv):(l:List SlF)→DT (denH l)→Heap→Heap
 | [],_,h=>h
 | x::r,v,h=>(x.b,some (e.ns x.b,expB e x.f (dFst _ _ v)))::expH e r (dSnd _ _ v) h
def expT (e:XEnv):(l:List (Nat×Fm))→DT (denT l)→List (Nat×XV)→List (Nat×XV)
 | [],_,t=>t
 | x::r,v,t=>(x.1,hdX (expF e x.2 (dFst _ _ v)))::expT e r (dSnd _ _ v) t
def szOf:List SlF→Nat→Nat
 | [],_=>0
 | x::r,b=>match Nat.beq x.b b with | true=>(match x.f with | .rows _ sz=>sz | _=>0) | false=>szOf r b
def castM (kt vt kt' vt':TT) (l:List (kt.den×vt.den)):Option (List (kt'.den×vt'.den)):=match h:ttB kt kt'&&ttB vt vt' with
 | true=>some ((ttB_eq (Bool.and_eq_true _ _ ▸ h).1) ▸ (ttB_eq (Bool.and_eq_true _ _ ▸ h).2) ▸ l)
 | false=>none
def cutK (c:CEnv):(f:BF)→XBlk→Option (DT f.den×List Bool)
 | .row f,k=>(match k with | .row e=>cutF c f [e] | _=>none)
 | .rows t sz,k=>(match k with | .rows t' l=>(match castL t' t l with | some l=>some (l,[]) | none=>none) | _=>none)
 | .map kt vt,k=>(match k with | .map kt' vt' l=>(match castM kt' vt' kt vt l with | some l=>some (l,[]) | none=>none) | _=>none)
 | .iter,k=>(match k with | .iter s pos=>some ((s,pos),[]) | _=>none)
def cutN:(f:BF)→Option (DT f.den×List Bool)
 | .rows t sz=>(match Nat.blt 0 sz with | true=>some ([],[]) | false=>none)
 | _=>none
def kpB (c:CEnv) (x:SlF) (s0:Nat):Bool:=match x.k with
 | true=>(match c.ns x.b with | some s=>Nat.beq s s0 | none=>false)
 | false=>true
def cutB (c:CEnv) (x:SlF):Option (DT x.f.den×List Bool):=match Nat.blt x.b c.M&&!inB' c.fz x.b with
 | true=>(match lkS c.h x.b with
  | some (s0,k)=>(match kpB c x s0 with | true=>cutK c x.f k | false=>none)
  | none=>(match x.k with | true=>none | false=>cutN x.f))
 | false=>none
def cutH (c:CEnv):(l:List SlF)→Option (DT (denH l)×List Bool)
 | []=>some ((),[])
 | x::r=>(match hasB r x.b with
  | false=>(match cutB c x,cutH c r with | some (a,g),some (b,g')=>some (dMk _ _ a b,g++g') | _,_=>none)
  | true=>none)
def cutT (c:CEnv) (t:List (Nat×XV)):(l:List (Nat×Fm))→Option (DT (denT l)×List Bool)
 | []=>some ((),[])
 | x::r=>(match lk t x.1 with
  | some y=>(match cutF c x.2 [y],cutT c t r with | some (a,g),some (b,g')=>some (dMk _ _ a b,g++g') | _,_=>none)
  | none=>none)
def gdL {R:Type}:List Bool→Option R→Option R
 | [],k=>k
 | b::r,k=>cond b (gdL r k) none
structure XSt where
 t:List (Nat×XV)
 h:Heap
 n:Nat
def envOf (fh:Heap) (base M:Nat) (ws:List Nat) (sh:Sh) (h:Heap):CEnv:=⟨sh.fz,M,h,nsOf fh base M ws sh.h,szOf sh.h⟩
def cutS {R:Type} (fh:Heap) (base M:Nat) (ws:List Nat) (sh:Sh) (st:XSt) (K:sh.den→Option R):Option R:=match cutT (envOf fh base M ws sh st.h) st.t sh.t,cutH (envOf fh base M ws sh st.h) sh.h with
 | some (a,g),some (b,g')=>gdL g (gdL g' (K (dMk _ _ a b)))
 | _,_=>none
def killT:List Nat→List (Nat×XV)→List (Nat×XV)
 | [],t=>t
 | d::r,t=>(d,.dead)::killT r t
def killW:List Nat→Heap→Heap
 | [],h=>h
 | d::r,h=>(d,none)::killW r h
def expS (base M:Nat) (ds ws:List Nat) (f:XSt) (sh:Sh) (v:sh.den):XSt :=
 ⟨expT ⟨nsD f.h base M ws sh.h,lnOf f.h sh.h (dSnd (denT sh.t) (denH sh.h) v)⟩ sh.t (dFst (denT sh.t) (denH sh.h) v) (killT ds f.t),expH ⟨nsD f.h base M ws sh.h,lnOf f.h sh.h (dSnd (denT sh.t) (denH sh.h) v)⟩ sh.h (dSnd (denT sh.t) (denH sh.h) v) (killW ws f.h),base+M⟩
def XSt.to (N M:Nat) (st:XSt):St:=⟨toT N st.t,toH M st.h,st.n⟩
mutual
def belowX (n:Nat):XV→Bool
 | .agg cs=>belowL n cs
 | .tup cs=>belowL n cs
 | .xl _ es=>belowL n es
 | .own _ s _ _ _ _=>Nat.blt s n
 | .optr _ s _ _=>Nat.blt s n
 | .sptr cs=>belowL n cs
 | .clo _ fs cs=>belowL n fs&&belowL n cs
 | .mp _ s=>Nat.blt s n
 | .k p=>(match p with | .v _=>true | _=>false)
 | _=>true
def belowL (n:Nat):List XV→Bool
 | []=>true
 | x::r=>belowX n x&&belowL n r
end
def belowB (n:Nat):XBlk→Bool
 | .row e=>belowX n e
 | .mapX l=>belowM n l
 | _=>true
where belowM (n:Nat):List (XV×XV)→Bool
 | []=>true
 | p::r=>belowX n p.1&&(belowX n p.2&&belowM n r)
def belowT (n:Nat):List (Nat×XV)→Bool
 | []=>true
 | x::r=>belowX n x.2&&belowT n r
def belowH (n:Nat):Heap→Bool
 | []=>true
 | x::r=>(match x.2 with | some y=>Nat.blt y.1 n&&belowB n y.2 | none=>true)&&belowH n r
end Go.Proofs.Yticljphbbdnomaa.VL
end
section
namespace Go.Proofs.Yticljphbbdnomaa.VL
open Go
set_option linter.unusedVariables false
set_option linter.unusedSimpArgs false
set_option linter.unusedSectionVars false
variable [Val]
def Ito (E E':Env) (p q:PV):Prop:=∀ u:Value,Rep E p u→Rep E' q u
inductive LI (E E':Env):List PV→List PV→Prop
 | nil:LI E E' [] []
 | cons {p q:PV} {r l:List PV} (h:Ito E E' p q) (t:LI E E' r l):LI E E' (p::r) (q::l)
theorem LI.len {E E':Env} {a b:List PV} (h:LI E E' a b):a.length=b.length:=by induction h<;>simp [*]
theorem LI.get {E E':Env} {a b:List PV} (h:LI E E' a b):∀ (i:Nat) (q:PV),b[i]?=some q→∃ p,a[i]?=some p∧Ito E E' p q:=by
 induction h with
 | nil=>intro i q h; simp at h
 | cons h t ih =>
  intro i q hq
  cases i with
  | zero=>simp at hq; subst hq; exact ⟨_,rfl,h⟩
  | succ i=>simp at hq; exact ih i q hq
theorem LI.append {E E':Env} {a b c d:List PV} (h:LI E E' a b) (k:LI E E' c d):LI E E' (a++c) (b++d):=by
 induction h with
 | nil=>exact k
 | cons h t ih=>exact .cons h ih
theorem LI.one {E E':Env} {p q:PV} (h:Ito E E' p q):LI E E' [p] [q]:=.cons h .nil
theorem into_agg {E E':Env} {cs ds:List PV} (h:LI E E' cs ds):Ito E E' (.agg cs) (.agg ds):=by
 intro u r
 cases r with
 | agg _ vs hl ho hr =>
  refine .agg ds vs (by rw [hl,h.len]) ho fun i c u hc hu=>?_
  obtain ⟨p,hp,hl⟩:=h.get i c hc
  exact hl u (hr i p u hp hu)
theorem into_tup {E E':Env} {cs ds:List PV} (h:LI E E' cs ds):Ito E E' (.tup cs) (.tup ds):=by
 intro u r
 cases r with
 | tup _ vs hl hr =>
  refine .tup ds vs (by rw [hl,h.len]) fun i c u hc hu=>?_
  obtain ⟨p,hp,hl⟩:=h.get i c hc
  exact hl u (hr i p u hp hu)
theorem into_clo {E E':Env} {f:Nat} {fs fs' cs ds:List PV} (h:LI E E' fs fs') (k:LI E E' cs ds):Ito E E' (.clo f fs cs) (.clo f fs' ds):=by
 intro u r
 cases r with
 | clo _ _ _ us vs hk hg hl hr =>
  refine .clo f fs' ds us vs (by rw [hk,h.len]) (fun i c u hc hu=>?_) (by rw [hl,k.len]) fun i c u hc hu=>?_
  ·obtain ⟨p,hp,hl⟩:=h.get i c hc; exact hl u (hg i p u hp hu)
  ·obtain ⟨p,hp,hl⟩:=k.get i c hc; exact hl u (hr i p u hp hu)
theorem Ito.lp {E E':Env} {p q r:PV} (h:Lp p q) (k:Ito E E' q r):Ito E E' p r:=fun u x=>k u (h E u x)
theorem closedL_append (a b:List PV):closedL (a++b)=(closedL a&&closedL b):=by
 induction a with
 | nil=>simp [closedL]
 | cons p r ih=>simp [closedL,ih,Bool.and_assoc]
theorem closedL_cells (p:PV):closedL p.cells=closed p:=by
 cases p<;>simp [PV.cells,closed,closedL]
theorem closed_enc:∀ {t:TT} (v:t.den),closed (enc t v)=true
 | .i k,v=>by simp [enc,closed]
 | .b,v=>by simp [enc,closed]
 | .s,v=>by simp [enc,closed]
 | .sl t,l=>by
  simp only [enc,closed,closedL_all]
  intro p hp
  rw [List.mem_map] at hp
  obtain ⟨v,_,rfl⟩:=hp
  exact closed_enc v
 | .p x y,v=>by
  simp only [enc,closed,closedL_append,closedL_cells,closed_enc v.1,closed_enc v.2,Bool.and_self]
 | .ar t,l=>by
  simp only [enc,closed,closedL_all]
  intro p hp
  rw [List.mem_map] at hp
  obtain ⟨v,_,rfl⟩:=hp
  exact closed_enc v
structure CutOk (c:CEnv) (e:XEnv) (E E':Env):Prop where
 S:∀ r,E.S r→E'.S r
 w:E'.w=E.w
 q:∀ (b s s':Nat) (k:XBlk) (en:Ent),rd c.M c.h b s=some k→c.ns b=some s'→E.σ s=some en→E'.σ s'=some en
 fz:∀ (b s:Nat) (k:XBlk),inB' c.fz b=true→rd c.M c.h b s=some k→∃ en,E.σ s=some en∧BRep E en k.toB∧(en.tot≠0→E'.S en.rb)
 nil:∀ (b s':Nat),c.ns b=some s'→lkS c.h b=none→E'.σ s'=some ⟨0,0,c.sz b,0⟩
 ns:∀ (b s':Nat),c.ns b=some s'→e.ns b=s'
 ln0:∀ (b s':Nat),c.ns b=some s'→lkS c.h b=none→e.ln b=0
 ln:∀ (b s' s:Nat) (t:TT) (l:List t.den),c.ns b=some s'→lkS c.h b=some (s,.rows t l)→e.ln b=l.length
variable {c:CEnv} {e:XEnv} {E E':Env}
theorem into_closed (O:CutOk c e E E') {p:PV} (hp:closed p=true):Ito E E' p p:=by
 intro u h
 have h1:Rep ⟨E.w,E.σ,E'.S⟩ p u:=Rep.mono (E':=⟨E.w,E.σ,E'.S⟩) ⟨O.S,fun _ _=>rfl,fun _ _ h=>h⟩ h
 have h2:=h1.any_names (σ:=E'.σ) hp
 have:(⟨E.w,E'.σ,E'.S⟩:Env)=E':=by cases E'; simp only [Env.mk.injEq,and_true]; exact O.w.symm
 rw [← this]; exact h2
theorem into_frz (O:CutOk c e E E') {b s sz off len:Nat} {cap:Option Nat} {t:TT} {l:List t.den} (hf:inB' c.fz b=true) (hr:rd c.M c.h b s=some (.rows t l)) (hg:off+len≤l.length) :
  Ito E E' (.own b s sz off len cap) (.sl false (((l.drop off).take len).map (enc t))):=by
 obtain ⟨en,h1,h2,h3⟩:=O.fz b s _ hf hr
 intro u h
 have hE1:E.le ⟨E.w,E.σ,E'.S⟩:=⟨O.S,fun _ _=>rfl,fun _ _ h=>h⟩
 have h4:=rep_frz (E':=⟨E.w,E.σ,E'.S⟩) hE1 h1 h2 h3 (fun _=>rfl) h
 simp only [frz,if_true,List.length_map] at h4
 rw [if_pos hg] at h4
 have h5:=rep_unclip h4
 have h6:closed (.sl false (((l.drop off).take len).map (enc t)))=true:=closed_enc (t:=.sl t) _
 rw [← List.map_drop,← List.map_take] at h5
 have h7:=h5.any_names (σ:=E'.σ) h6
 have:(⟨E.w,E'.σ,E'.S⟩:Env)=E':=by cases E'; simp only [Env.mk.injEq,and_true]; exact O.w.symm
 rw [← this]; exact h7
theorem cutC_spec (O:CutOk c e E E'):∀ {t:TT} {cs:List XV} {v:t.den} {r:List XV} {g:List Bool},cutC c t cs=some (v,r,g)→(∀ b ∈ g,b=true)→∃ pre,cs=pre++r∧LI E E' (toPVL pre) (enc t v).cells
 | .i k,[],v,r,g,h,_=>by cases h
 | .b,[],v,r,g,h,_=>by cases h
 | .s,[],v,r,g,h,_=>by cases h
 | .sl t,[],v,r,g,h,_=>by cases h
 | .ar t,_,v,r,g,h,_=>by cases h
 | .i k,x::r',v,r,g,h,_=>by
  simp only [cutC] at h
  split at h
  ·split at h
   ·rename_i he
    cases h
    rw [ikB_eq he]
    exact ⟨[_],rfl,LI.one (into_closed O (closed_enc (t:=.i k) _))⟩
   ·cases h
  ·cases h
 | .b,x::r',v,r,g,h,_=>by
  simp only [cutC] at h
  split at h
  ·cases h; exact ⟨[_],rfl,LI.one (into_closed O (closed_enc (t:=.b) _))⟩
  ·cases h
 | .s,x::r',v,r,g,h,_=>by
  simp only [cutC] at h
  split at h
  ·cases h; exact ⟨[_],rfl,LI.one (into_closed O (closed_enc (t:=.s) _))⟩
  ·cases h
 | .sl t,x::r',v,r,g,h,hg=>by
  simp only [cutC] at h
  split at h
  ·split at h
   ·rename_i l hl
    cases h
    obtain ⟨e1,e2⟩:=castL_spec hl
    subst e1 e2
    exact ⟨[_],rfl,LI.one (into_closed O (closed_enc (t:=.sl _) _))⟩
   ·cases h
  ·rename_i cl es
   split at h
   ·rename_i l hl
    cases h
    have hs:=collEs_spec (g:=enc t) (w:=true) (fun x a hx=>by obtain ⟨a,b,c⟩:=coll_spec hx; exact ⟨a,c⟩) hl
    exact ⟨[_],rfl,LI.one (Ito.lp (lp_sl hs.1 (by intro h; cases h)) (into_closed O (closed_enc (t:=.sl t) _)))⟩
   ·cases h
  ·rename_i b s sz off len cap
   split at h
   ·rename_i t' l hf hr
    split at h
    ·rename_i l2 hl
     cases h
     obtain ⟨e1,e2⟩:=castL_spec hl
     subst e1 e2
     exact ⟨[_],rfl,LI.one (into_frz O hf hr (by simpa using hg))⟩
    ·cases h
   ·cases h
  ·cases h
 | .p x y,cs,v,r,g,h,hg=>by
  simp only [cutC] at h
  split at h
  ·rename_i a r1 g1 h1
   split at h
   ·rename_i b r2 g2 h2
    cases h
    obtain ⟨p1,e1,l1⟩:=cutC_spec O h1 (fun b hb=>hg b (List.mem_append_left _ hb))
    obtain ⟨p2,e2,l2⟩:=cutC_spec O h2 (fun b hb=>hg b (List.mem_append_right _ hb))
    refine ⟨p1++p2,by rw [e1,e2,List.append_assoc],?_⟩
    rw [toPVL_append]
    exact l1.append l2
   ·cases h
  ·cases h
theorem into_of_cells {p q:PV} (h:LI E E' p.cells q.cells) (hb:p.isAgg=q.isAgg):Ito E E' p q:=by
 have one:∀ {p q:PV},LI E E' [p] [q]→Ito E E' p q:=by intro p q h; cases h; assumption
 cases p<;>cases q<;>simp only [PV.isAgg,reduceCtorEq] at hb<;>first
  | exact into_agg h
  | exact one h
theorem cutV_spec (O:CutOk c e E E') {t:TT} {x:XV} {v:t.den} {g:List Bool} (h:cutV c t x=some (v,g)) (hg:∀ b ∈ g,b=true):LI E E' x.toPV.cells (enc t v).cells∧Ito E E' x.toPV (enc t v):=by
 have gen:∀ {t:TT} {v:t.den},(match notArr x&&eqBB (isAggX x) (isAggTT t) with | true=>(match cutC c t x.cells with | some (v,[],g)=>some (v,g) | _=>none) | false=>none)=some (v,g)→LI E E' x.toPV.cells (enc t v).cells∧Ito E E' x.toPV (enc t v):=by
  intro t v h
  split at h
  ·rename_i hb
   rw [Bool.and_eq_true] at hb
   split at h
   ·rename_i v' g' hc
    cases h
    obtain ⟨pre,ee,h1⟩:=cutC_spec O hc hg
    rw [List.append_nil] at ee
    subst ee
    have hgg:x.toPV.isAgg=(enc t v).isAgg:=by rw [isAgg_toPV,isAgg_enc]; exact eqBB_eq hb.2
    rw [← cells_notArr hb.1] at h1
    exact ⟨h1,into_of_cells h1 hgg⟩
   ·cases h
  ·cases h
 have arr:∀ (t:TT) (l:List t.den),LI E E' (XV.arr t l).toPV.cells (enc (.ar t) l).cells∧Ito E E' (XV.arr t l).toPV (enc (.ar t) l):=by
  intro t l
  have ee:(XV.arr t l).toPV=enc (.ar t) l:=by simp [XV.toPV,enc]
  rw [ee]
  have hI:=into_closed O (closed_enc (t:=.ar t) l)
  refine ⟨?_,hI⟩
  have:∀ l:List t.den,LI E E' (l.map (enc t)) (l.map (enc t)):=by
   intro l
   induction l with
   | nil=>exact .nil
   | cons a r ih=>exact .cons (into_closed O (closed_enc a)) ih
  exact this l
 cases t with
 | ar t' =>
  simp only [cutV] at h
  split at h
  ·split at h
   ·rename_i hl
    cases h
    obtain ⟨e1,e2⟩:=castL_spec hl
    subst e1 e2
    exact arr _ _
   ·cases h
  ·cases h
 | _=>exact gen h
theorem isNone'_spec {α:Type} {o:Option α}:(isNone' o=true ↔ o=none):=by cases o<;>simp [isNone']
theorem ownAt_spec {b b' s':Nat} {k:XBlk} (h:ownAt c b b' s'=some k):b'=b∧rd c.M c.h b s'=some k∧∃ s,c.ns b=some s:=by
 unfold ownAt at h
 split at h
 ·rename_i hb
  rw [Bool.and_eq_true] at hb
  refine ⟨(Nat.eq_of_beq_eq_true hb.1).symm,h,?_⟩
  cases hn:c.ns b with
  | none=>rw [hn] at hb; simp [isNone'] at hb
  | some s=>exact ⟨s,rfl⟩
 ·cases h
theorem rd_lkS {M:Nat} {h:Heap} {b s:Nat} {k:XBlk} (hk:rd M h b s=some k):lkS h b=some (s,k):=by
 unfold rd at hk
 split at hk
 ·rename_i s' k' hl
  split at hk
  ·rename_i hb
   cases hk
   rw [Bool.and_eq_true] at hb
   rw [hl,Nat.eq_of_beq_eq_true hb.1]
  ·cases hk
 ·cases hk
theorem into_own (O:CutOk c e E E') {b s s' sz off len:Nat} {cap:Option Nat} {k:XBlk} (hr:rd c.M c.h b s=some k) (hs:c.ns b=some s'):Ito E E' (.own b s sz off len cap) (.own b (e.ns b) sz off len cap):=by
 intro u h
 rw [O.ns b s' hs]
 cases h with
 | own _ _ _ _ _ en cc a hb ha hn hlen hc htot hcap=>exact .own b s' off len cap en cc a (O.q b s s' k en hr hs hb) ha hn hlen hc htot hcap
theorem into_optr (O:CutOk c e E E') {b s s' i off:Nat} {k:XBlk} (hr:rd c.M c.h b s=some k) (hs:c.ns b=some s'):Ito E E' (.optr b s i off) (.optr b (e.ns b) i off):=by
 intro u h
 rw [O.ns b s' hs]
 cases h with
 | optr _ _ _ _ en hb=>exact .optr b s' i off en (O.q b s s' k en hr hs hb)
theorem into_mp (O:CutOk c e E E') {b s s':Nat} {k:XBlk} (hr:rd c.M c.h b s=some k) (hs:c.ns b=some s'):Ito E E' (.mp b s) (.mp b (e.ns b)):=by
 intro u h
 rw [O.ns b s' hs]
 cases h with
 | mp _ _ en hb=>exact .mp b s' en (O.q b s s' k en hr hs hb)
def Fm.fine:Fm→Bool
 | .v t=>t.fine
 | .clo _ fs cs=>fs.fine&&cs.fine
 | .agg cs=>cs.fine
 | .tup cs=>cs.fine
 | .co f r=>f.fine&&r.fine
 | _=>true
theorem cutW_spec (O:CutOk c e E E') {b sz:Nat} {x:XV} {g:List Bool} (h:cutW c b sz x=some g) (hg:∀ b ∈ g,b=true):x.toPV.cells=[x.toPV]∧Ito E E' x.toPV (.own b (e.ns b) sz 0 (e.ln b) none):=by
 unfold cutW at h
 split at h
 ·rename_i b' s' sz' off len
  split at h
  ·rename_i t l ho hb
   cases h
   obtain ⟨rfl,hr,s,hs⟩:=ownAt_spec ho
   rw [Bool.and_eq_true] at hb
   have h1:=Nat.eq_of_beq_eq_true hb.1
   have h2:=Nat.eq_of_beq_eq_true hb.2
   subst h1 h2
   have h3:len=l.length:=by simpa using hg
   rw [O.ln _ s s' t l hs (rd_lkS hr),← h3]
   exact ⟨rfl,into_own O hr hs⟩
  ·cases h
 ·split at h
  ·rename_i hb
   cases h
   simp only [Bool.and_eq_true,Bool.not_eq_true'] at hb
   obtain ⟨h1,h2,h3⟩:=hb
   have h1:=isNone'_spec.1 h1
   have h3:=Nat.eq_of_beq_eq_true h3
   cases hn:c.ns b with
   | none=>rw [hn] at h2; cases h2
   | some s =>
    rw [O.ln0 b s hn h1,O.ns b s hn,h3]
    refine ⟨rfl,?_⟩
    intro u hu
    have hσ:=O.nil b s hn h1
    simp only [XV.toPV,toPVL] at hu
    cases hu with
    | emp _ ad cap hc hn' =>
     have:=hc rfl
     subst this
     exact .own b s 0 0 none ⟨0,0,c.sz b,0⟩ 0 ad hσ (fun h=>absurd rfl h) (fun _=>rfl) (Nat.le_refl _) (by simp) (by simp) (by simp)
    | sl _ _ rb off cap sz' U hne=>exact absurd rfl hne
  ·cases h
 ·cases h
theorem cutO_spec (O:CutOk c e E E') {b sz:Nat} {x:XV} {g:List Bool} (h:cutO c b sz x=some g) (hg:∀ b ∈ g,b=true):x.toPV.cells=[x.toPV]∧Ito E E' x.toPV (.own b (e.ns b) sz 0 (e.ln b) (some (e.ln b))):=by
 unfold cutO at h
 split at h
 ·rename_i b' s' sz' off len k
  split at h
  ·rename_i t l ho hb
   cases h
   obtain ⟨rfl,hr,s,hs⟩:=ownAt_spec ho
   rw [Bool.and_eq_true] at hb
   have h1:=Nat.eq_of_beq_eq_true hb.1
   have h2:=Nat.eq_of_beq_eq_true hb.2
   subst h1 h2
   have h3:len=l.length∧k=l.length:=by simpa using hg
   rw [O.ln _ s s' t l hs (rd_lkS hr)]
   obtain ⟨rfl,rfl⟩:=h3
   exact ⟨rfl,into_own O hr hs⟩
  ·cases h
 ·cases h
theorem bnd1_some {α β:Type} {o:Option α} {k:α→Option β} {b:β} (h:bnd1 o k=some b):∃ a,o=some a∧k a=some b:=by
 cases o with
 | none=>cases h
 | some a=>exact ⟨a,rfl,h⟩
theorem unitG_some {o:Option (List Bool)} {u:Unit} {g:List Bool} (h:unitG o=some (u,g)):o=some g:=by
 cases o with
 | none=>cases h
 | some g'=>cases h; rfl
theorem pairG_some {x y:Option Type} {a:Option (DT x×List Bool)} {b:Option (DT y×List Bool)} {v:DT (dP x y)} {g:List Bool} (h:pairG x y a b=some (v,g)) :
  ∃ a' ga b' gb,a=some (a',ga)∧b=some (b',gb)∧v=dMk x y a' b'∧g=ga++gb:=by
 unfold pairG at h
 split at h
 ·rename_i a b
  simp only [Option.some.injEq,Prod.mk.injEq] at h
  exact ⟨_,_,_,_,rfl,rfl,h.1.symm,h.2.symm⟩
 ·cases h
theorem oneX_some {xs:List XV} {x:XV} (h:oneX xs=some x):xs=[x]:=by
 unfold oneX at h
 split at h
 ·cases h; rfl
 ·cases h
theorem aggX_some {xs cs:List XV} (h:aggX xs=some cs):xs=[.agg cs]:=by
 unfold aggX at h
 split at h
 ·cases h; rfl
 ·cases h
theorem tupX_some {xs cs:List XV} (h:tupX xs=some cs):xs=[.tup cs]:=by
 unfold tupX at h
 split at h
 ·cases h; rfl
 ·cases h
theorem cloX_some {f:Nat} {xs:List XV} {p:List XV×List XV} (h:cloX f xs=some p):xs=[.clo f p.1 p.2]:=by
 unfold cloX at h
 split at h
 ·split at h
  ·rename_i hf
   cases h
   rw [Nat.eq_of_beq_eq_true hf]
  ·cases h
 ·cases h
theorem ptr_spec (O:CutOk c e E E') {b off:Nat} {xs:List XV} {g:List Bool} (h:cutPtr c b off xs=some g):LI E E' (toPVL xs) [.optr b (e.ns b) 0 off]:=by
 unfold cutPtr at h
 split at h
 ·split at h
  ·rename_i ho hb
   obtain ⟨rfl,hr,s,hs⟩:=ownAt_spec ho
   rw [Bool.and_eq_true] at hb
   have h1:=Nat.eq_of_beq_eq_true hb.1
   have h2:=Nat.eq_of_beq_eq_true hb.2
   subst h1 h2
   exact .one (into_optr O hr hs)
  ·cases h
 ·cases h
theorem pix_spec (O:CutOk c e E E') {b off i:Nat} {xs:List XV} {g:List Bool} (h:cutPix c b off xs=some (i,g)):LI E E' (toPVL xs) [.optr b (e.ns b) i off]:=by
 unfold cutPix at h
 split at h
 ·split at h
  ·rename_i ho hb
   obtain ⟨rfl,hr,s,hs⟩:=ownAt_spec ho
   have h2:=Nat.eq_of_beq_eq_true hb
   subst h2
   cases h
   exact .one (into_optr O hr hs)
  ·cases h
 ·cases h
theorem mp_spec (O:CutOk c e E E') {b:Nat} {xs:List XV} {g:List Bool} (h:cutMp c b xs=some g):LI E E' (toPVL xs) [.mp b (e.ns b)]:=by
 unfold cutMp at h
 split at h
 ·split at h
  ·rename_i ho
   obtain ⟨rfl,hr,s,hs⟩:=ownAt_spec ho
   exact .one (into_mp O hr hs)
  ·cases h
 ·cases h
theorem opF_spec (O:CutOk c e E E') {b sz:Nat} {x:XV} {v:Nat×Nat} {g:List Bool} (h:cutP c b sz x=some (v,g)):Ito E E' x.toPV (.own b (e.ns b) sz v.1 v.2 none):=by
 unfold cutP at h
 split at h
 ·split at h
  ·rename_i ho hb
   cases h
   obtain ⟨rfl,hr,s,hs⟩:=ownAt_spec ho
   have h1:=Nat.eq_of_beq_eq_true hb
   subst h1
   exact into_own O hr hs
  ·cases h
 ·cases h
theorem cutF_spec (O:CutOk c e E E'):∀ {f:Fm} {xs:List XV} {v:DT f.den} {g:List Bool},f.fine=true→cutF c f xs=some (v,g)→(∀ b ∈ g,b=true)→LI E E' (toPVL xs) (toPVL (expF e f v)):=by
 intro f
 induction f with
 | v t =>
  intro xs v g hf h hg
  obtain ⟨x,hx,h⟩:=bnd1_some h
  rw [oneX_some hx]
  have e1:toPVL (expF e (.v t) v)=[enc t v]:=by
   simp only [expF,toPVL]; rw [toPV_expand v (by simpa [Fm.fine] using hf)]
  rw [e1]
  exact .one (cutV_spec O h hg).2
 | ow b sz =>
  intro xs v g hf h hg
  obtain ⟨x,hx,h⟩:=bnd1_some (unitG_some h)
  rw [oneX_some hx]
  exact .one (cutW_spec O h hg).2
 | oc b sz =>
  intro xs v g hf h hg
  obtain ⟨x,hx,h⟩:=bnd1_some (unitG_some h)
  rw [oneX_some hx]
  exact .one (cutO_spec O h hg).2
 | op b sz =>
  intro xs v g hf h hg
  obtain ⟨x,hx,h⟩:=bnd1_some h
  rw [oneX_some hx]
  exact .one (opF_spec O h)
 | ptr b off =>
  intro xs v g hf h hg
  exact ptr_spec O (unitG_some h)
 | pix b off =>
  intro xs v g hf h hg
  exact pix_spec O h
 | clo f fs cs ih1 ih2 =>
  intro xs v g hf h hg
  simp only [Fm.fine,Bool.and_eq_true] at hf
  obtain ⟨p,hx,h⟩:=bnd1_some h
  rw [cloX_some hx]
  obtain ⟨a,ga,b,gb,h1,h2,rfl,rfl⟩:=pairG_some h
  have k1:=ih1 hf.1 h1 (fun b hb=>hg b (List.mem_append_left _ hb))
  have k2:=ih2 hf.2 h2 (fun b hb=>hg b (List.mem_append_right _ hb))
  simp only [expF,toPVL,XV.toPV,dFst_mk,dSnd_mk]
  exact .one (into_clo k1 k2)
 | agg cs ih =>
  intro xs v g hf h hg
  obtain ⟨p,hx,h⟩:=bnd1_some h
  rw [aggX_some hx]
  have k1:=ih (by simpa [Fm.fine] using hf) h hg
  simp only [expF,toPVL,XV.toPV]
  exact .one (into_agg k1)
 | tup cs ih =>
  intro xs v g hf h hg
  obtain ⟨p,hx,h⟩:=bnd1_some h
  rw [tupX_some hx]
  have k1:=ih (by simpa [Fm.fine] using hf) h hg
  simp only [expF,toPVL,XV.toPV]
  exact .one (into_tup k1)
 | mp b =>
  intro xs v g hf h hg
  exact mp_spec O (unitG_some h)
 | nil =>
  intro xs v g hf h hg
  have h:=unitG_some h
  unfold isNilX at h
  split at h
  ·exact .one (into_closed O rfl)
  ·cases h
 | dead =>
  intro xs v g hf h hg
  obtain ⟨x,hx,h⟩:=bnd1_some (unitG_some h)
  rw [oneX_some hx]
  exact .one (fun u _=>.dead u)
 | no =>
  intro xs v g hf h hg
  have h:=unitG_some h
  unfold noX at h
  split at h
  ·exact .nil
  ·cases h
 | co f r ih1 ih2 =>
  intro xs v g hf h hg
  simp only [Fm.fine,Bool.and_eq_true] at hf
  cases xs with
  | nil=>cases h
  | cons x xs =>
   have h:pairG f.den r.den (cutF c f [x]) (cutF c r xs)=some (v,g):=h
   obtain ⟨a,ga,b,gb,h1,h2,rfl,rfl⟩:=pairG_some h
   have k1:=ih1 hf.1 h1 (fun b hb=>hg b (List.mem_append_left _ hb))
   have k2:=ih2 hf.2 h2 (fun b hb=>hg b (List.mem_append_right _ hb))
   simp only [expF,dFst_mk,dSnd_mk,toPVL_append]
   exact k1.append k2
end Go.Proofs.Yticljphbbdnomaa.VL
end
