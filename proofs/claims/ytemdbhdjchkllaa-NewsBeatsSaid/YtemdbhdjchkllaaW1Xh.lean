import Derived.Test.YtemdbhdjchkllaaW1Xg
namespace Go.Proofs.Ytemdbhdjchkllaa.VL
open Go
set_option linter.unusedVariables false
set_option linter.unusedSimpArgs false
set_option linter.unusedSectionVars false
variable [Val]
@[reducible] def DT:Option Type→Type
 | none=>Unit
 | some A=>A
@[reducible] def dP:Option Type→Option Type→Option Type
 | none,y=>y
 | some A,none=>some A
 | some A,some B=>some (A×B)
def dMk:(x y:Option Type)→DT x→DT y→DT (dP x y)
 | none,_,_,b=>b
 | some _,none,a,_=>a
 | some _,some _,a,b=>(a,b)
def dFst:(x y:Option Type)→DT (dP x y)→DT x
 | none,_,_=>()
 | some _,none,a=>a
 | some _,some _,p=>p.1
def dSnd:(x y:Option Type)→DT (dP x y)→DT y
 | none,_,b=>b
 | some _,none,_=>()
 | some _,some _,p=>p.2
theorem dFst_mk:∀ (x y:Option Type) (a:DT x) (b:DT y),dFst x y (dMk x y a b)=a
 | none,none,_,_=>rfl
 | none,some _,_,_=>rfl
 | some _,none,_,_=>rfl
 | some _,some _,_,_=>rfl
theorem dSnd_mk:∀ (x y:Option Type) (a:DT x) (b:DT y),dSnd x y (dMk x y a b)=b
 | none,none,_,_=>rfl
 | none,some _,_,_=>rfl
 | some _,none,_,_=>rfl
 | some _,some _,_,_=>rfl
inductive Fm where
 | v (t:TT)
 | ow (b sz:Nat)
 | oc (b sz:Nat)
 | op (b sz:Nat)
 | ptr (b off:Nat)
 | pix (b off:Nat)
 | clo (f:Nat) (fs cs:Fm)
 | agg (cs:Fm)
 | tup (cs:Fm)
 | mp (b:Nat)
 | nil
 | dead
 | no
 | co (f r:Fm)
 deriving Inhabited
@[reducible] def Fm.den:Fm→Option Type
 | .v t=>some t.den
 | .ow ..=>none
 | .oc ..=>none
 | .op ..=>some (Nat×Nat)
 | .ptr ..=>none
 | .pix ..=>some Nat
 | .clo _ fs cs=>dP fs.den cs.den
 | .agg cs=>cs.den
 | .tup cs=>cs.den
 | .mp _=>none
 | .nil=>none
 | .dead=>none
 | .no=>none
 | .co f r=>dP f.den r.den
inductive BF where
 | row (f:Fm)
 | rows (t:TT) (sz:Nat)
 | map (kt vt:TT)
 | iter
@[reducible] def BF.den:BF→Option Type
 | .row f=>f.den
 | .rows t _=>some (List t.den)
 | .map kt vt=>some (List (kt.den×vt.den))
 | .iter=>some (ByteArray×Nat)
structure SlF where
 b:Nat
 f:BF
 k:Bool
structure Sh where
 fz:List Nat
 t:List (Nat×Fm)
 h:List SlF
@[reducible] def denT:List (Nat×Fm)→Option Type
 | []=>none
 | x::r=>dP x.2.den (denT r)
@[reducible] def denH:List SlF→Option Type
 | []=>none
 | x::r=>dP x.f.den (denH r)
@[reducible] def Sh.den (sh:Sh):Type:=DT (dP (denT sh.t) (denH sh.h))
def inB':List Nat→Nat→Bool
 | [],_=>false
 | x::r,b=>match Nat.beq x b with | true=>true | false=>inB' r b
def stOf (fh:Heap) (base:Nat) (x:SlF):Option Nat:=match x.k with
 | true=>(match lkS fh x.b with | some y=>some y.1 | none=>none)
 | false=>some (base+x.b)
def oldS (fh:Heap) (M:Nat) (ws:List Nat) (b:Nat):Option Nat:=match Nat.blt b M&&!inB' ws b with
 | true=>(match lkS fh b with | some y=>some y.1 | none=>none)
 | false=>none
def nsOf (fh:Heap) (base M:Nat) (ws:List Nat):List SlF→Nat→Option Nat
 | [],b=>oldS fh M ws b
 | x::r,b=>match Nat.beq x.b b with | true=>stOf fh base x | false=>nsOf fh base M ws r b
def nsD (fh:Heap) (base M:Nat) (ws:List Nat) (l:List SlF) (b:Nat):Nat:=match nsOf fh base M ws l b with | some s=>s | none=>base+b
def hasB:List SlF→Nat→Bool
 | [],_=>false
 | x::r,b=>match Nat.beq x.b b with | true=>true | false=>hasB r b
def nwB:List SlF→Nat→Bool
 | [],_=>false
 | x::r,b=>match Nat.beq x.b b with | true=>!x.k | false=>nwB r b
structure CEnv where
 fz:List Nat
 M:Nat
 h:Heap
 ns:Nat→Option Nat
 sz:Nat→Nat
def cutC (c:CEnv):(t:TT)→List XV→Option (t.den×List XV×List Bool)
 | .i k,x::r=>(match x with | .i k' n=>(match ikB k' k with | true=>some (n,r,[]) | false=>none) | _=>none)
 | .b,x::r=>(match x with | .b y=>some (y,r,[]) | _=>none)
 | .s,x::r=>(match x with | .s y=>some (y,r,[]) | _=>none)
 | .sl t,x::r=>(match x with
  | .tl t' l=>(match castL t' t l with | some l=>some (l,r,[]) | none=>none)
  | .xl cl es=>(match collEs (coll true t) es with | some l=>some (l,r,[]) | none=>none)
  | .own b s _ off len _=>(match inB' c.fz b,rd c.M c.h b s with
   | true,some (.rows t' l)=>(match castL t' t l with | some l=>some ((l.drop off).take len,r,[decide (off+len≤l.length)]) | none=>none)
   | _,_=>none)
  | _=>none)
 | .p x y,cs=>(match cutC c x cs with
  | some (a,r,g)=>(match cutC c y r with | some (b,r',g')=>some ((a,b),r',g++g') | none=>none)
  | none=>none)
 | _,_=>none
def cutV (c:CEnv) (t:TT) (x:XV):Option (t.den×List Bool):=match t with
 | .ar t'=>(match x with | .arr t'' l=>(match castL t'' t' l with | some l=>some (l,[]) | none=>none) | _=>none)
 | t=>(match notArr x&&eqBB (isAggX x) (isAggTT t) with | true=>(match cutC c t x.cells with | some (v,[],g)=>some (v,g) | _=>none) | false=>none)
def isNone' {α:Type}:Option α→Bool
 | none=>true
 | some _=>false
def ownAt (c:CEnv) (b:Nat) (b' s':Nat):Option XBlk:=match Nat.beq b b'&&!isNone' (c.ns b) with
 | true=>rd c.M c.h b s'
 | false=>none
def cutW (c:CEnv) (b sz:Nat) (x:XV):Option (List Bool):=match x with
 | .own b' s' sz' off len none=>(match ownAt c b b' s',Nat.beq sz sz'&&Nat.beq off 0 with
  | some (.rows _ l),true=>some [decide (len=l.length)]
  | _,_=>none)
 | .xl true []=>(match isNone' (lkS c.h b)&&(!isNone' (c.ns b)&&Nat.beq sz (c.sz b)) with | true=>some [] | false=>none)
 | _=>none
def cutO (c:CEnv) (b sz:Nat) (x:XV):Option (List Bool):=match x with
 | .own b' s' sz' off len (some k)=>(match ownAt c b b' s',Nat.beq sz sz'&&Nat.beq off 0 with
  | some (.rows _ l),true=>some [decide (len=l.length),decide (k=l.length)]
  | _,_=>none)
 | _=>none
def cutP (c:CEnv) (b sz:Nat) (x:XV):Option ((Nat×Nat)×List Bool):=match x with
 | .own b' s' sz' off len none=>(match ownAt c b b' s',Nat.beq sz sz' with
  | some _,true=>some ((off,len),[])
  | _,_=>none)
 | _=>none
def cutPtr (c:CEnv) (b off:Nat) (xs:List XV):Option (List Bool):=match xs with
 | [.optr b' s' i off']=>(match ownAt c b b' s',Nat.beq i 0&&Nat.beq off off' with | some _,true=>some [] | _,_=>none)
 | _=>none
def cutPix (c:CEnv) (b off:Nat) (xs:List XV):Option (Nat×List Bool):=match xs with
 | [.optr b' s' i off']=>(match ownAt c b b' s',Nat.beq off off' with | some _,true=>some (i,[]) | _,_=>none)
 | _=>none
def cutMp (c:CEnv) (b:Nat) (xs:List XV):Option (List Bool):=match xs with
 | [.mp b' s']=>(match ownAt c b b' s' with | some _=>some [] | none=>none)
 | _=>none
def isNilX (xs:List XV):Option (List Bool):=match xs with
 | [.xl true []]=>some []
 | _=>none
def oneX (xs:List XV):Option XV:=match xs with
 | [x]=>some x
 | _=>none
def noX (xs:List XV):Option (List Bool):=match xs with
 | []=>some []
 | _=>none
def aggX (xs:List XV):Option (List XV):=match xs with
 | [.agg cs]=>some cs
 | _=>none
def tupX (xs:List XV):Option (List XV):=match xs with
 | [.tup cs]=>some cs
 | _=>none
def cloX (f:Nat) (xs:List XV):Option (List XV×List XV):=match xs with
 | [.clo f' fs cs]=>(match Nat.beq f f' with | true=>some (fs,cs) | false=>none)
 | _=>none
def unitG:Option (List Bool)→Option (Unit×List Bool)
 | some g=>some ((),g)
 | none=>none
def pairG (x y:Option Type):Option (DT x×List Bool)→Option (DT y×List Bool)→Option (DT (dP x y)×List Bool)
 | some a,some b=>some (dMk x y a.1 b.1,a.2++b.2)
 | _,_=>none
def bnd1 {α β:Type} (o:Option α) (k:α→Option β):Option β:=match o with
 | some a=>k a
 | none=>none
def cutF (c:CEnv):(f:Fm)→List XV→Option (DT f.den×List Bool)
 | .v t,xs=>bnd1 (oneX xs) (cutV c t)
 | .ow b sz,xs=>unitG (bnd1 (oneX xs) (cutW c b sz))
 | .oc b sz,xs=>unitG (bnd1 (oneX xs) (cutO c b sz))
 | .op b sz,xs=>bnd1 (oneX xs) (cutP c b sz)
 | .ptr b off,xs=>unitG (cutPtr c b off xs)
 | .pix b off,xs=>cutPix c b off xs
 | .clo f fs cs,xs=>bnd1 (cloX f xs) fun p=>pairG _ _ (cutF c fs p.1) (cutF c cs p.2)
 | .agg cs,xs=>bnd1 (aggX xs) (cutF c cs)
 | .tup cs,xs=>bnd1 (tupX xs) (cutF c cs)
 | .mp b,xs=>unitG (cutMp c b xs)
 | .nil,xs=>unitG (isNilX xs)
 | .dead,xs=>unitG (bnd1 (oneX xs) fun _=>some [])
 | .no,xs=>unitG (noX xs)
 | .co f r,xs=>(match xs with
  | x::xs=>pairG _ _ (cutF c f [x]) (cutF c r xs)
  | []=>none)
structure XEnv where
 ns:Nat→Nat
 ln:Nat→Nat
def expF (e:XEnv):(f:Fm)→DT f.den→List XV
 | .v t,v=>[expand t v]
 | .ow b sz,_=>[.own b (e.ns b) sz 0 (e.ln b) none]
 | .oc b sz,_=>[.own b (e.ns b) sz 0 (e.ln b) (some (e.ln b))]
 | .op b sz,(v:Nat×Nat)=>[.own b (e.ns b) sz v.1 v.2 none]
 | .ptr b off,_=>[.optr b (e.ns b) 0 off]
 | .pix b off,(v:Nat)=>[.optr b (e.ns b) v off]
 | .clo f fs cs,v=>[.clo f (expF e fs (dFst _ _ v)) (expF e cs (dSnd _ _ v))]
 | .agg cs,v=>[.agg (expF e cs v)]
 | .tup cs,v=>[.tup (expF e cs v)]
 | .mp b,_=>[.mp b (e.ns b)]
 | .nil,_=>[.xl true []]
 | .dead,_=>[.dead]
 | .no,_=>[]
 | .co f r,v=>expF e f (dFst _ _ v)++expF e r (dSnd _ _ v)
def hdX:List XV→XV
 | x::_=>x
 | []=>.dead
def rowsB:XBlk→Nat
 | .rows _ l=>l.length
 | .row _=>1
 | _=>0
def lnOf (fh:Heap):(l:List SlF)→DT (denH l)→Nat→Nat
 | [],_,b=>(match lkS fh b with | some y=>rowsB y.2 | none=>0)
 | x::r,v,b=>match Nat.beq x.b b with
  | true=>(match x.f,(dFst x.f.den (denH r) v) with | .rows t _,(l:List t.den)=>l.length | _,_=>0)
  | false=>lnOf fh r (dSnd x.f.den (denH r) v) b
def expB (e:XEnv):(f:BF)→DT f.den→XBlk
 | .row f,v=>.row (hdX (expF e f v))
 | .rows t _,(v:List t.den)=>.rows t v
 | .map kt vt,(v:List (kt.den×vt.den))=>.map kt vt v
 | .iter,(v:ByteArray×Nat)=>.iter v.1 v.2
def expH (e:XEnv):(l:List SlF)→DT (denH l)→Heap→Heap
 | [],_,h=>h
 | x::r,v,h=>(x.b,some (e.ns x.b,expB e x.f (dFst _ _ v)))::expH e r (dSnd _ _ v) h
def expT (e:XEnv):(l:List (Nat×Fm))→DT (denT l)→List (Nat×XV)→List (Nat×XV)
 | [],_,t=>t
 | x::r,v,t=>(x.1,hdX (expF e x.2 (dFst _ _ v)))::expT e r (dSnd _ _ v) t
def szOf:List SlF→Nat→Nat
 | [],_=>0
 | x::r,b=>match Nat.beq x.b b with | true=>(match x.f with | .rows _ sz=>sz | _=>0) | false=>szOf r b
def castM (kt vt kt' vt':TT) (l:List (kt.den×vt.den)):Option (List (kt'.den×vt'.den)):=match h:ttB kt kt'&&ttB vt vt' with
 | true=>some ((ttB_eq (Bool.and_eq_true _ _ ▸ h).1) ▸ (ttB_eq (Bool.and_eq_true _ _ ▸ h).2) ▸ l)
 | false=>none
def cutK (c:CEnv):(f:BF)→XBlk→Option (DT f.den×List Bool)
 | .row f,k=>(match k with | .row e=>cutF c f [e] | _=>none)
 | .rows t sz,k=>(match k with | .rows t' l=>(match castL t' t l with | some l=>some (l,[]) | none=>none) | _=>none)
 | .map kt vt,k=>(match k with | .map kt' vt' l=>(match castM kt' vt' kt vt l with | some l=>some (l,[]) | none=>none) | _=>none)
 | .iter,k=>(match k with | .iter s pos=>some ((s,pos),[]) | _=>none)
def cutN:(f:BF)→Option (DT f.den×List Bool)
 | .rows t sz=>(match Nat.blt 0 sz with | true=>some ([],[]) | false=>none)
 | _=>none
def kpB (c:CEnv) (x:SlF) (s0:Nat):Bool:=match x.k with
 | true=>(match c.ns x.b with | some s=>Nat.beq s s0 | none=>false)
 | false=>true
def cutB (c:CEnv) (x:SlF):Option (DT x.f.den×List Bool):=match Nat.blt x.b c.M&&!inB' c.fz x.b with
 | true=>(match lkS c.h x.b with
  | some (s0,k)=>(match kpB c x s0 with | true=>cutK c x.f k | false=>none)
  | none=>(match x.k with | true=>none | false=>cutN x.f))
 | false=>none
def cutH (c:CEnv):(l:List SlF)→Option (DT (denH l)×List Bool)
 | []=>some ((),[])
 | x::r=>(match hasB r x.b with
  | false=>(match cutB c x,cutH c r with | some (a,g),some (b,g')=>some (dMk _ _ a b,g++g') | _,_=>none)
  | true=>none)
def cutT (c:CEnv) (t:List (Nat×XV)):(l:List (Nat×Fm))→Option (DT (denT l)×List Bool)
 | []=>some ((),[])
 | x::r=>(match lk t x.1 with
  | some y=>(match cutF c x.2 [y],cutT c t r with | some (a,g),some (b,g')=>some (dMk _ _ a b,g++g') | _,_=>none)
  | none=>none)
def gdL {R:Type}:List Bool→Option R→Option R
 | [],k=>k
 | b::r,k=>cond b (gdL r k) none
structure XSt where
 t:List (Nat×XV)
 h:Heap
 n:Nat
def envOf (fh:Heap) (base M:Nat) (ws:List Nat) (sh:Sh) (h:Heap):CEnv:=⟨sh.fz,M,h,nsOf fh base M ws sh.h,szOf sh.h⟩
def cutS {R:Type} (fh:Heap) (base M:Nat) (ws:List Nat) (sh:Sh) (st:XSt) (K:sh.den→Option R):Option R:=match cutT (envOf fh base M ws sh st.h) st.t sh.t,cutH (envOf fh base M ws sh st.h) sh.h with
 | some (a,g),some (b,g')=>gdL g (gdL g' (K (dMk _ _ a b)))
 | _,_=>none
def killT:List Nat→List (Nat×XV)→List (Nat×XV)
 | [],t=>t
 | d::r,t=>(d,.dead)::killT r t
def killW:List Nat→Heap→Heap
 | [],h=>h
 | d::r,h=>(d,none)::killW r h
def expS (base M:Nat) (ds ws:List Nat) (f:XSt) (sh:Sh) (v:sh.den):XSt :=
 ⟨expT ⟨nsD f.h base M ws sh.h,lnOf f.h sh.h (dSnd (denT sh.t) (denH sh.h) v)⟩ sh.t (dFst (denT sh.t) (denH sh.h) v) (killT ds f.t),expH ⟨nsD f.h base M ws sh.h,lnOf f.h sh.h (dSnd (denT sh.t) (denH sh.h) v)⟩ sh.h (dSnd (denT sh.t) (denH sh.h) v) (killW ws f.h),base+M⟩
def XSt.to (N M:Nat) (st:XSt):St:=⟨toT N st.t,toH M st.h,st.n⟩
mutual
def belowX (n:Nat):XV→Bool
 | .agg cs=>belowL n cs
 | .tup cs=>belowL n cs
 | .xl _ es=>belowL n es
 | .own _ s _ _ _ _=>Nat.blt s n
 | .optr _ s _ _=>Nat.blt s n
 | .sptr cs=>belowL n cs
 | .clo _ fs cs=>belowL n fs&&belowL n cs
 | .mp _ s=>Nat.blt s n
 | .k p=>(match p with | .v _=>true | _=>false)
 | _=>true
def belowL (n:Nat):List XV→Bool
 | []=>true
 | x::r=>belowX n x&&belowL n r
end
def belowB (n:Nat):XBlk→Bool
 | .row e=>belowX n e
 | .mapX l=>belowM n l
 | _=>true
where belowM (n:Nat):List (XV×XV)→Bool
 | []=>true
 | p::r=>belowX n p.1&&(belowX n p.2&&belowM n r)
def belowT (n:Nat):List (Nat×XV)→Bool
 | []=>true
 | x::r=>belowX n x.2&&belowT n r
def belowH (n:Nat):Heap→Bool
 | []=>true
 | x::r=>(match x.2 with | some y=>Nat.blt y.1 n&&belowB n y.2 | none=>true)&&belowH n r
end Go.Proofs.Ytemdbhdjchkllaa.VL
