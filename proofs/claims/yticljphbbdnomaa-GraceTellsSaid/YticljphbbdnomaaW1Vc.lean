import Derived.Test.YticljphbbdnomaaW1Va
import Derived.Laws.CopyRow
import Derived.Laws.Slices
section
namespace Go.Proofs.Yticljphbbdnomaa.VL
open Go
set_option linter.unusedVariables false
set_option linter.unusedSimpArgs false
set_option linter.unusedSectionVars false
variable [Val]
inductive Opd where
 | t (n:Nat)
 | c (p:PV)
 deriving Inhabited
inductive EK where
 | i | b | s
 deriving Inhabited
inductive IOp where
 | mov (x:Opd)
 | pick (c a b:Opd)
 | alloc (s:Nat) (z:PV)
 | box (s:Nat) (sz:Nat) (x:Opd)
 | bld (z:List PV) (parts:List (Nat×Nat×Opd))
 | bsl (sz:Nat) (z:PV) (len:Nat) (parts:List (Nat×Opd))
 | load (g:Bool) (n:Nat) (a:Opd)
 | store (n:Nat) (a x:Opd)
 | nilc (x:Opd)
 | bin (op:BinOp) (x y:Opd)
 | binB (neg:Bool) (x y:Opd)
 | nilq (neg:Bool) (x:Opd)
 | eqA (neg:Bool) (sz:Nat) (plan:List (Nat×EK)) (x y:Opd)
 | un (op:UnOp) (x:Opd)
 | conv (k:IntKind) (x:Opd)
 | convS (x:Opd)
 | fn (f:Nat) (fs cs:List Opd)
 | mksl (s sz bytes:Nat) (z:PV) (l c:Opd)
 | slc (sz:Nat) (x:Opd) (lo hi mx:Option Opd)
 | slS (x:Opd) (lo hi:Option Opd)
 | fad (off:Nat) (x:Opd)
 | fld (g:Bool) (off n:Nat) (x:Opd)
 | iad (sz:Nat) (x i:Opd)
 | iaA (len sz:Nat) (x i:Opd)
 | ixA (g:Bool) (len sz:Nat) (x i:Opd)
 | ixS (x i:Opd)
 | ext (x:Opd) (i:Nat)
 | len (x:Opd)
 | lenS (x:Opd)
 | cap (x:Opd)
 | app (s sz bytes:Nat) (z:PV) (x y:Opd)
 | cpy (sz:Nat) (x y:Opd)
 | mm (mx:Bool) (xs:List Opd)
 | mkm (s:Nat)
 | lkp (ok:Bool) (k:EK) (z:PV) (x key:Opd)
 | mup (k:EK) (x key v:Opd)
 | del (k:EK) (x key:Opd)
 | lenM (x:Opd)
 | clr (sz:Nat) (z:PV) (x:Opd)
 | bts (x:Opd)
 | apz (s sz bytes:Nat) (z:PV) (x y:Opd)
 | ovl (x y:Opd)
 | rngS (s:Nat) (x:Opd)
 | nxtS (x:Opd)
 | call (s:Nat) (f:Nat) (args:List Opd)
 | callv (s:Nat) (x:Opd) (args:List Opd)
 | callG (s:Nat) (f:Nat) (args:List Opd)
 | callvG (s:Nat) (x:Opd) (args:List Opd)
 | bad
 deriving Inhabited
structure IOper where
 dst:Option Nat
 op:IOp
 guard:Option (Nat×Bool)
 deriving Inhabited
def PV.isAgg:PV→Bool
 | .agg _=>true
 | _=>false
def ldv (g:Bool) (n:Nat) (e:PV) (off:Nat):Option PV :=
 if off=0∧e.cells.length=n∧e.isAgg=g then some e
 else if off+n≤e.cells.length then (if g then some (.agg ((e.cells.drop off).take n)) else if n=1 then e.cells[off]? else none) else none
def stv (e:PV) (off n:Nat) (p:PV):Option PV :=
 if p.cells.length=n then
  if off=0∧e.cells.length=n then some p
  else if off+n≤e.cells.length then some (.agg (e.cells.take off++p.cells++e.cells.drop (off+n))) else none
 else none
def PV.stor:PV→Bool
 | .v x=>x.oneCell'
 | .sy x=>x.ty.isSome
 | .tup _ | .dead=>false
 | _=>true
def binV (op:BinOp):PV→PV→Option Value
 | .v (.int k a),.v (.int k' b) =>
  match op with
  | .shl | .shr=>shifts op k a b
  | op=>if k=k' then arith op k a b else none
 | .v (.string a),.v (.string b)=>strOp op a b
 | _,_=>none
def unV (op:UnOp):PV→Option Value
 | .v (.bool b)=>match op with | .not=>some (.bool !b) | _=>none
 | .v (.int k n)=>match op with
  | .neg=>some (.int k (k.wrap (0 - n)))
  | .xor=>some (.int k (k.wrap (BitVec.ofInt k.bits (if k.signed then -1 else k.max) ^^^ BitVec.ofInt k.bits n).toNat))
  | _=>none
 | _=>none
def elems (h:List Slot):PV→Option (List PV)
 | .sl _ es=>some es
 | .own b s sz off len _=>match h[b]? with
  | some (some (s',.cells es))=>if s'=s∧off+len≤es.length then some ((es.drop off).take len) else none
  | _=>none
 | _=>none
def rowsIn (h:List Slot) (b s:Nat):Nat:=match h[b]? with | some (some (s',.cells es))=>if s'=s then es.length else 0 | _=>0
def capOf (h:List Slot) (b s off len:Nat):Option Nat→Nat
 | some c=>c
 | none=>max len (rowsIn h b s - off)
def slCap (h:List Slot) (b s off len:Nat) (cap:Option Nat):Option Opd→Nat
 | none=>capOf h b s off len cap
 | some _=>cap.getD len
def partsV (ρ:Opd→PV) (z:PV) (i:Nat):List (Nat×Opd)→PV
 | []=>z
 | p::r=>partsV ρ (if p.1=i then ρ p.2 else z) i r
def fillV (ρ:Opd→PV):List PV→List (Nat×Nat×Opd)→Option (List PV)
 | cs,[]=>some cs
 | cs,(off,n,x)::r =>
  if (ρ x).cells.length=n∧off+n≤cs.length∧(ρ x).stor=true then fillV ρ (cs.take off++(ρ x).cells++cs.drop (off+n)) r else none
def bnd (ρ:Opd→PV) (d:Int):Option Opd→Option Int
 | none=>some d
 | some x=>match ρ x with | .v (.int _ i)=>some i | _=>none
def mmGo (mx:Bool) (k:IntKind) (m:Int):List PV→Option Value
 | []=>some (.int k m)
 | .v (.int k' n)::r=>if k=k' then mmGo mx k (if mx then (if n > m then n else m) else (if n < m then n else m)) r else none
 | _=>none
def mmV (mx:Bool):List PV→Option Value
 | .v (.int k m)::r=>mmGo mx k m r
 | _=>none
def eqKind:EK→PV→PV→Option Bool
 | .i,.v (.int k a),.v (.int k' b)=>if k=k' then some (a==b) else none
 | .b,.v (.bool a),.v (.bool b)=>some (a==b)
 | .s,.v (.string a),.v (.string b)=>some (a.toList==b.toList)
 | _,_,_=>none
def eqV (cs ds:List PV):List (Nat×EK)→Option Bool
 | []=>some true
 | (o,k)::r=>match eqKind k (cs.getD o .dead) (ds.getD o .dead),eqV cs ds r with | some x,some y=>some (x&&y) | _,_=>none
def byteOf:PV→Option Int
 | .v (.int .u8 n)=>some n
 | _=>none
def bytesOf:List PV→Option (List Int)
 | []=>some []
 | p::r=>match byteOf p,bytesOf r with | some n,some l=>some (n::l) | _,_=>none
def txtOf (ns:List Int):ByteArray:=⟨(ns.map fun n=>UInt8.ofNat n.toNat).toArray⟩
def sameV:Value→Value→Bool
 | .int k a,.int k' b=>decide (k=k')&&decide (a=b)
 | .bool a,.bool b=>a==b
 | .string a,.string b=>decide (a.data=b.data)
 | _,_=>false
def sameSX:SX→SX→Bool
 | .i k n,.i k' m=>decide (k=k')&&n==m
 | .b n,.b m=>n==m
 | .s n,.s m=>n==m
 | .c u,.c v=>sameV u v
 | .bin op x y,.bin op' x' y'=>decide (op=op')&&sameSX x x'&&sameSX y y'
 | .beq n x y,.beq n' x' y'=>n==n'&&sameSX x x'&&sameSX y y'
 | .and x y,.and x' y'=>sameSX x x'&&sameSX y y'
 | .un op x,.un op' x'=>decide (op=op')&&sameSX x x'
 | .conv k x,.conv k' x'=>decide (k=k')&&sameSX x x'
 | .len x,.len x'=>sameSX x x'
 | _,_=>false
theorem sameV_eq {u v:Value} (h:sameV u v=true):u=v:=by
 unfold sameV at h
 split at h
 ·simp only [Bool.and_eq_true,decide_eq_true_eq] at h; rw [h.1,h.2]
 ·simp only [beq_iff_eq] at h; rw [h]
 ·simp only [decide_eq_true_eq] at h; rename_i a b; cases a; cases b; simp only at h; rw [h]
 ·cases h
theorem sameSX_eq:∀ {x y:SX},sameSX x y=true→x=y:=by
 intro x
 induction x with
 | i k n=>intro y h; cases y<;>simp only [sameSX,Bool.and_eq_true,decide_eq_true_eq,beq_iff_eq] at h<;>first | (cases h; done) | (rw [h.1,h.2])
 | b n=>intro y h; cases y<;>simp only [sameSX,beq_iff_eq] at h<;>first | (cases h; done) | (rw [h])
 | s n=>intro y h; cases y<;>simp only [sameSX,beq_iff_eq] at h<;>first | (cases h; done) | (rw [h])
 | c u=>intro y h; cases y<;>simp only [sameSX] at h<;>first | (cases h; done) | (rw [sameV_eq h])
 | bin op a b iha ihb=>intro y h; cases y<;>simp only [sameSX,Bool.and_eq_true,decide_eq_true_eq] at h<;>first | (cases h; done) | (rw [h.1.1,iha h.1.2,ihb h.2])
 | beq n a b iha ihb=>intro y h; cases y<;>simp only [sameSX,Bool.and_eq_true,beq_iff_eq] at h<;>first | (cases h; done) | (rw [h.1.1,iha h.1.2,ihb h.2])
 | and a b iha ihb=>intro y h; cases y<;>simp only [sameSX,Bool.and_eq_true] at h<;>first | (cases h; done) | (rw [iha h.1,ihb h.2])
 | un op a iha=>intro y h; cases y<;>simp only [sameSX,Bool.and_eq_true,decide_eq_true_eq] at h<;>first | (cases h; done) | (rw [h.1,iha h.2])
 | conv k a iha=>intro y h; cases y<;>simp only [sameSX,Bool.and_eq_true,decide_eq_true_eq] at h<;>first | (cases h; done) | (rw [h.1,iha h.2])
 | len a iha=>intro y h; cases y<;>simp only [sameSX] at h<;>first | (cases h; done) | (rw [iha h])
def mmS:List PV→Option SX
 | .sy x::r=>match x.ty with
  | some (.i _)=>if (r.all fun p=>match p with | .sy y=>sameSX x y | _=>false)=true then some x else none
  | _=>none
 | _=>none
def toSX:PV→Option SX
 | .v (.int k n)=>some (.c (.int k n))
 | .v (.bool t)=>some (.c (.bool t))
 | .v (.string t)=>some (.c (.string t))
 | .sy x=>some x
 | _=>none
def guardSX (x:SX):Option SX:=if x.ty.isSome=true then some x else none
def binS (op:BinOp) (p q:PV):Option SX:=match toSX p,toSX q with | some x,some y=>guardSX (.bin op x y) | _,_=>none
def beqS (neg:Bool) (p q:PV):Option SX:=match toSX p,toSX q with | some x,some y=>guardSX (.beq neg x y) | _,_=>none
def eqKindX (k:EK) (x y:SX):Option SX:=match k,x.ty,y.ty with
 | .i,some (.i k1),some (.i k2)=>if k1=k2 then some (.bin .eql x y) else none
 | .s,some .s,some .s=>some (.bin .eql x y)
 | .b,some .b,some .b=>some (.beq false x y)
 | _,_,_=>none
def eqKindS (k:EK) (p q:PV):Option SX:=match toSX p,toSX q with
 | some x,some y=>eqKindX k x y
 | _,_=>none
def eqS (cs ds:List PV):List (Nat×EK)→Option SX
 | []=>some (.c (.bool true))
 | (o,k)::r=>match eqKind k (cs.getD o .dead) (ds.getD o .dead) with
  | some true=>eqS cs ds r
  | some false=>(eqS cs ds r).map fun _=>.c (.bool false)
  | none=>match eqKindS k (cs.getD o .dead) (ds.getD o .dead),eqS cs ds r with
   | some x,some (.c (.bool true))=>some x
   | some _,some (.c (.bool false))=>some (.c (.bool false))
   | some x,some y=>guardSX (.and x y)
   | _,_=>none
def eqSs (sz:Nat) (neg:Bool) (plan:List (Nat×EK)) (cs ds:List PV):Option SX:=if cs.length=sz∧ds.length=sz then (match eqS cs ds plan with | some x=>if neg then guardSX (.un .not x) else guardSX x | none=>none) else none
def mFind (k:EK) (key:PV):List (PV×PV)→Nat→Option (Option Nat)
 | [],_=>some none
 | p::r,i=>match eqKind k key p.1 with
  | some true=>some (some i)
  | some false=>mFind k key r (i+1)
  | none=>none
def lkV (ok:Bool) (z:PV) (ps:List (PV×PV)) (r:Option Nat):PV :=
 let v:=match r with | some i=>(match ps[i]? with | some p=>p.2 | none=>z) | none=>z
 if ok then .tup [v,.v (.bool r.isSome)] else v
def mPut (ps:List (PV×PV)) (r:Option Nat) (key v:PV):List (PV×PV):=match r with | some i=>ps.set i (key,v) | none=>ps++[(key,v)]
def mDel (ps:List (PV×PV)) (r:Option Nat):List (PV×PV):=match r with | some i=>ps.eraseIdx i | none=>ps
def eqVs (sz:Nat) (plan:List (Nat×EK)) (cs ds:List PV):Option Bool:=if cs.length=sz∧ds.length=sz then eqV cs ds plan else none
variable (ρ:Opd→PV) (h:List Slot) (n:Nat)
def opK (K:PV→List Slot→Nat→Prop):IOp→Prop
 | .mov x=>K (ρ x) h n
 | .pick c a b=>match ρ c with | .v (.bool t)=>(t=true→K (ρ a) h n)∧(t=false→K (ρ b) h n) | .sy x=>x.ty=some .b∧(x.eval=.bool true→K (ρ a) h n)∧(x.eval=.bool false→K (ρ b) h n) | _=>False
 | .alloc s z=>s < h.length∧z.stor=true∧0 < z.cells.length∧K (.optr s n 0 0) (h.set s (some (n,.cells [z]))) (n+1)
 | .box s sz x=>s < h.length∧(ρ x).stor=true∧0 < sz∧(ρ x).cells.length=sz∧K (.optr s n 0 0) (h.set s (some (n,.cells [ρ x]))) (n+1)
 | .bld z parts=>match fillV ρ z parts with | some cs=>K (.agg cs) h n | none=>False
 | .bsl sz z len parts=>0 < sz∧len * sz≤16777216∧z.cells.length=sz∧z.stor=true∧(∀ p ∈ parts,(ρ p.2).cells.length=sz∧(ρ p.2).stor=true∧p.1 < len)∧K (.sl true ((List.range len).map (fun i=>partsV ρ z i parts))) h n
 | .load g m a=>match ρ a with
  | .optr b s i off=>∃ es e p,h[b]?=some (some (s,.cells es))∧es[i]?=some e∧ldv g m e off=some p∧K p h n
  | .sptr cs=>∃ p,ldv g m (.agg cs) 0=some p∧K p h n
  | _=>False
 | .store m a x=>match ρ a with
  | .optr b s i off=>∃ es e e',h[b]?=some (some (s,.cells es))∧es[i]?=some e∧(ρ x).stor=true∧stv e off m (ρ x)=some e'∧K (.v undef) (h.set b (some (s,.cells (es.set i e')))) n
  | _=>False
 | .nilc x=>match ρ x with | .optr .. | .sptr _ | .clo ..=>K (ρ x) h n | _=>False
 | .bin op x y=>match binV op (ρ x) (ρ y) with | some u=>K (.v u) h n | none=>(match binS op (ρ x) (ρ y) with | some z=>K (.sy z) h n | none=>False)
 | .binB neg x y=>match ρ x,ρ y with | .v (.bool a),.v (.bool b)=>K (.v (.bool (if neg then !(a==b) else a==b))) h n | p,q=>(match beqS neg p q with | some z=>K (.sy z) h n | none=>False)
 | .nilq neg x=>match ρ x with
  | .sl _ es=>(es=[]→K (.v (.bool !neg)) h n)∧K (.v (.bool neg)) h n
  | .own _ _ _ _ len _=>(len=0→K (.v (.bool !neg)) h n)∧K (.v (.bool neg)) h n
  | _=>False
 | .eqA neg sz plan x y=>match ρ x,ρ y with | .agg cs,.agg ds=>(match eqVs sz plan cs ds with | some r=>K (.v (.bool (if neg then !r else r))) h n | none=>(match eqSs sz neg plan cs ds with | some z=>K (.sy z) h n | none=>False)) | _,_=>False
 | .un op x=>match unV op (ρ x) with | some u=>K (.v u) h n | none=>(match toSX (ρ x) with | some y=>(SX.un op y).ty.isSome=true∧K (.sy (.un op y)) h n | none=>False)
 | .conv k x=>match ρ x with | .v (.int _ i)=>K (.v (.int k (k.wrap i))) h n | .sy y=>(SX.conv k y).ty.isSome=true∧K (.sy (.conv k y)) h n | _=>False
 | .convS x=>match ρ x with | .v (.string s)=>K (.v (.string s)) h n | .sy y=>y.ty=some .s∧K (.sy y) h n | _=>False
 | .fn f fs cs=>K (.clo f (fs.map ρ) (cs.map ρ)) h n
 | .mksl s sz bytes z l c=>match ρ l,ρ c with
  | .v (.int _ l),.v (.int _ c)=>s < h.length∧0 < sz∧z.cells.length=sz∧z.stor=true∧0≤l∧l≤c∧c * bytes≤70368744177664∧c≤70368744177664 ∧
    K (.own s n sz 0 l.toNat (some c.toNat)) (h.set s (some (n,.cells (List.replicate c.toNat z)))) (n+1)
  | _,_=>False
 | .slc sz x lo hi mx=>match ρ x with
  | .sl c es=>match bnd ρ 0 lo,bnd ρ es.length hi,bnd ρ es.length mx with
   | some l,some u,some m=>(∀ e ∈ es,e.cells.length=sz)∧0≤l∧l≤u∧u≤m∧m≤es.length∧K (.sl (mx.isSome&&decide (m=u) || c&&decide (u=es.length)) ((es.drop l.toNat).take (u.toNat - l.toNat))) h n
   | _,_,_=>False
  | .own b s sz' off len cap=>sz'=sz∧match bnd ρ 0 lo,bnd ρ len hi,mx with
   | some l,some u,none=>0≤l∧l≤u∧u≤(capOf h b s off len cap:Nat)∧K (.own b s sz (off+l.toNat) (u.toNat - l.toNat) (cap.map (· - l.toNat))) h n
   | some l,some u,some mx=>match ρ mx with
    | .v (.int _ m)=>0≤l∧l≤u∧u≤m∧m≤(cap.getD len:Nat)∧K (.own b s sz (off+l.toNat) (u.toNat - l.toNat) (some (m.toNat - l.toNat))) h n
    | _=>False
   | _,_,_=>False
  | _=>False
 | .slS x lo hi=>match ρ x with
  | .v (.string s)=>match bnd ρ 0 lo,bnd ρ s.size hi with
   | some l,some u=>0≤l∧l≤u∧u≤s.size∧K (.v (.string (s.extract l.toNat u.toNat))) h n
   | _,_=>False
  | _=>False
 | .fad off x=>match ρ x with
  | .optr b s i o=>K (.optr b s i (o+off)) h n
  | .sptr cs=>K (.sptr (cs.drop off)) h n
  | _=>False
 | .fld g off m x=>match ρ x with
  | .agg cs=>(g=false→m=1)∧∃ p,ldv g m (.agg cs) off=some p∧K p h n
  | _=>False
 | .iad sz x i=>match ρ x,ρ i with
  | .sl _ es,.v (.int _ i)=>0≤i∧∃ e,es[i.toNat]?=some e∧e.cells.length=sz∧K (.sptr e.cells) h n
  | .own b s sz' off len _,.v (.int _ i)=>sz'=sz∧0≤i∧i < len∧K (.optr b s (off+i.toNat) 0) h n
  | _,_=>False
 | .iaA len sz x i=>match ρ x,ρ i with
  | .optr b s j off,.v (.int _ i)=>0≤i∧i < len∧K (.optr b s j (off+i.toNat * sz)) h n
  | .sptr cs,.v (.int _ i)=>0≤i∧i < len∧K (.sptr (cs.drop (i.toNat * sz))) h n
  | _,_=>False
 | .ixA g len sz x i=>match ρ x,ρ i with
  | .agg cs,.v (.int _ i)=>0≤i∧i < len∧(g=false→sz=1)∧∃ p,ldv g sz (.agg cs) (i.toNat * sz)=some p∧K p h n
  | _,_=>False
 | .ixS x i=>match ρ x,ρ i with
  | .v (.string s),.v (.int _ i)=>0≤i∧∃ c,s[i.toNat]?=some c∧K (.v (.int .u8 c.toNat)) h n
  | _,_=>False
 | .ext x i=>match ρ x with | .tup cs=>∃ c,cs[i]?=some c∧K c h n | _=>False
 | .len x=>match ρ x with | .sl _ es=>K (.v (.int .i64 es.length)) h n | .own _ _ _ _ len _=>K (.v (.int .i64 len)) h n | _=>False
 | .lenS x=>match ρ x with | .v (.string s)=>K (.v (.int .i64 s.size)) h n | .sy y=>(SX.len y).ty.isSome=true∧K (.sy (.len y)) h n | _=>False
 | .cap x=>match ρ x with
  | .sl true es=>K (.v (.int .i64 es.length)) h n
  | .sl false es=>∀ c:Nat,es.length≤c→K (.v (.int .i64 c)) h n
  | .own _ _ _ _ len (some c)=>K (.v (.int .i64 c)) h n
  | .own _ _ _ _ len none=>∀ c:Nat,len≤c→K (.v (.int .i64 c)) h n
  | _=>False
 | .app s sz bytes z x y=>s < h.length∧0 < sz∧z.cells.length=sz∧z.stor=true∧∃ ys,elems h (ρ y)=some ys∧(∀ e ∈ ys,e.cells.length=sz)∧match ρ x with
  | .sl true es=>(∀ e ∈ es,e.cells.length=sz)∧(es.length+ys.length) * bytes≤70368744177664∧es.length+ys.length≤70368744177664 ∧
    (ys=[]→K (.sl true es) h n)∧(ys≠[]→K (.own s n sz 0 (es.length+ys.length) none) (h.set s (some (n,.cells (es++ys)))) (n+1))
  | .own b st sz' off len cap=>sz'=sz∧∃ es,h[b]?=some (some (st,.cells es))∧off+len≤es.length∧(len+ys.length) * bytes≤70368744177664∧len+ys.length≤70368744177664∧match cap with
   | some c=>if len+ys.length≤c then off+len+ys.length≤es.length∧K (.own b st sz off (len+ys.length) cap) (h.set b (some (st,.cells (es.take (off+len)++ys++es.drop (off+len+ys.length))))) n
     else K (.own s n sz 0 (len+ys.length) none) (h.set s (some (n,.cells ((es.drop off).take len++ys)))) (n+1)
   | none=>if off+len+ys.length≤es.length then K (.own b st sz off (len+ys.length) none) (h.set b (some (st,.cells (es.take (off+len)++ys++es.drop (off+len+ys.length))))) n
     else K (.own b n sz 0 (len+ys.length) none) (h.set b (some (n,.cells ((es.drop off).take len++ys)))) (n+1)
  | _=>False
 | .cpy sz x y=>match ρ x with
  | .own b st sz' off len cap=>sz'=sz∧∃ es ys,h[b]?=some (some (st,.cells es))∧off+len≤es.length∧elems h (ρ y)=some ys∧(∀ e ∈ ys,e.cells.length=sz) ∧
    K (.v (.int .i64 (min ys.length len:Nat))) (h.set b (some (st,.cells (es.take off++ys.take (min ys.length len)++es.drop (off+min ys.length len))))) n
  | .sl _ []=>∃ ys,elems h (ρ y)=some ys∧K (.v (.int .i64 0)) h n
  | _=>False
 | .mm mx xs=>match mmV mx (xs.map ρ) with | some u=>K (.v u) h n | none=>(match mmS (xs.map ρ) with | some x=>K (.sy x) h n | none=>False)
 | .mkm s=>s < h.length∧K (.mp s n) (h.set s (some (n,.map []))) (n+1)
 | .lkp ok k z x key=>match ρ x with
  | .mp b s=>∃ ps r,h[b]?=some (some (s,.map ps))∧mFind k (ρ key) ps 0=some r∧K (lkV ok z ps r) h n
  | _=>False
 | .mup k x key v=>match ρ x with
  | .mp b s=>∃ ps r,h[b]?=some (some (s,.map ps))∧mFind k (ρ key) ps 0=some r∧K (.v undef) (h.set b (some (s,.map (mPut ps r (ρ key) (ρ v))))) n
  | _=>False
 | .del k x key=>match ρ x with
  | .mp b s=>∃ ps r,h[b]?=some (some (s,.map ps))∧mFind k (ρ key) ps 0=some r∧K (.tup []) (h.set b (some (s,.map (mDel ps r)))) n
  | _=>False
 | .lenM x=>match ρ x with
  | .mp b s=>∃ ps,h[b]?=some (some (s,.map ps))∧K (.v (.int .i64 ps.length)) h n
  | _=>False
 | .clr sz z x=>z.cells.length=sz∧z.stor=true∧match ρ x with
  | .own b st sz' off len _=>sz'=sz∧∃ es,h[b]?=some (some (st,.cells es))∧off+len≤es.length∧K (.tup []) (h.set b (some (st,.cells (es.take off++List.replicate len z++es.drop (off+len))))) n
  | .sl _ []=>K (.tup []) h n
  | _=>False
 | .bts x=>∃ es ns,elems h (ρ x)=some es∧bytesOf es=some ns∧K (.v (.string (txtOf ns))) h n
 | .apz s sz bytes z x y=>match ρ x,ρ y with
  | .own b st sz' off len (some c),.v (.int _ m)=>s < h.length∧0 < sz∧sz'=sz∧z.cells.length=sz∧z.stor=true∧0≤m∧c < len+m.toNat∧(len+m.toNat) * bytes≤70368744177664∧len+m.toNat≤70368744177664 ∧
    ∃ es,h[b]?=some (some (st,.cells es))∧off+len≤es.length∧K (.own s n sz 0 (len+m.toNat) none) (h.set s (some (n,.cells ((es.drop off).take len++List.replicate m.toNat z)))) (n+1)
  | _,_=>False
 | .ovl x y=>match ρ x,ρ y with
  | .sl _ (_::_),.own b st _ _ _ _=>(∃ es,h[b]?=some (some (st,.cells es)))∧K (.v (.bool false)) h n
  | _,_=>False
 | .rngS s x=>match ρ x with
  | .v (.string t)=>s < h.length∧K (.optr s n 0 0) (h.set s (some (n,.iter t 0))) (n+1)
  | _=>False
 | .nxtS x=>match ρ x with
  | .optr b s 0 0=>∃ t pos,h[b]?=some (some (s,.iter t pos)) ∧
    if pos < t.size then K (.tup [.v (.bool true),.v (.int .i64 pos),.v (.int .i32 (Utf8.decode t pos).1)]) (h.set b (some (s,.iter t (pos+(Utf8.decode t pos).2)))) n else K (.tup [.v (.bool false)]) h n
  | _=>False
 | .call ..=>False
 | .callv ..=>False
 | .callG ..=>False
 | .callvG ..=>False
 | .bad=>False
end Go.Proofs.Yticljphbbdnomaa.VL
end
section
namespace Go.Proofs.Yticljphbbdnomaa.VL
open Go
set_option linter.unusedVariables false
set_option linter.unusedSimpArgs false
set_option linter.unusedSectionVars false
variable [Val]
def cVal1:Value→PV
 | .slice none 0 0=>.sl true []
 | x=>.v x
def cVal:Value→PV
 | .slice none 0 0=>.sl true []
 | .agg cs=>if cs.all Value.oneCell' then .agg (cs.toList.map cVal1) else .v (.agg cs)
 | x=>.v x
def cOpd:Operand→Option Opd
 | .tmp t=>some (.t t)
 | .const v=>some (.c (cVal v))
 | .func f=>some (.c (.clo f [] []))
 | .global _=>none
def cOpds (xs:Array Operand):Option (List Opd):=xs.toList.mapM cOpd
def cOpt:Option Operand→Option (Option Opd)
 | none=>some none
 | some x=>(cOpd x).map some
def isAggT (P:Program) (t:TypeId):Option Bool :=
 match P.underlying t with
 | some (.struct _) | some (.array _ _)=>some true
 | some _=>some false
 | none=>none
def elemT (P:Program) (t:TypeId):Option TypeId:=match P.underlying t with | some (.slice e)=>some e | _=>none
def St.ev (st:St):Opd→PV
 | .t i=>st.t.getD i .dead
 | .c p=>p
theorem cVal1_rep (E:Env) (u:Value):Rep E (cVal1 u) u:=by
 unfold cVal1
 split
 ·exact .emp true none 0 (fun _=>rfl) (fun _=>rfl)
 ·exact .v u
theorem cVal_rep (E:Env) (u:Value):Rep E (cVal u) u:=by
 unfold cVal
 split
 ·exact .emp true none 0 (fun _=>rfl) (fun _=>rfl)
 ·rename_i cs
  split
  ·rename_i hall
   refine .agg _ _ (by simp) ?_ ?_
   ·intro i u hu
    exact Array.all_eq_true_iff_forall_mem.1 hall u (Array.mem_of_getElem? hu)
   ·intro i c u hc hu
    simp only [List.getElem?_map,Option.map_eq_some_iff] at hc
    obtain ⟨u',h1,rfl⟩:=hc
    have:u'=u:=by simpa [hu] using h1.symm
    subst this
    exact cVal1_rep E u'
  ·exact .v _
 ·exact .v u
variable {C:Ctx} {st:St} {a:Act} {E:Env}
theorem ev_rep (I:InvE C st a E) {x:Operand} {y:Opd} (h:cOpd x=some y):Rep E (st.ev y) (a.eval x):=by
 cases x with
 | tmp t =>
  cases h
  simp only [St.ev,Act.eval]
  by_cases ht:t < st.t.length
  ·have ht':t < a.tmps.size:=by rw [I.tsize]; exact ht
   exact I.tmps t _ _ (by simp [ht]) (by simp [ht'])
  ·rw [List.getD_eq_getElem?_getD,List.getElem?_eq_none (Nat.le_of_not_lt ht)]
   exact .dead _
 | const v=>cases h; exact cVal_rep E v
 | global g=>cases h
 | func f =>
  cases h
  exact .clo f [] [] #[] #[] rfl (fun i c u hc=>by simp at hc) rfl (fun i c u hc=>by simp at hc)
theorem evs_rep (I:InvE C st a E):∀ {xs:List Operand} {ys:List Opd},xs.mapM cOpd=some ys→(xs.map a.eval).length=ys.length∧∀ (i:Nat) (c:PV) (u:Value),(ys.map st.ev)[i]?=some c→(xs.map a.eval)[i]?=some u→Rep E c u
 | [],ys,h=>by
  simp at h; subst h; simp
 | x::xs,ys,h=>by
  simp only [List.mapM_cons,Option.bind_eq_bind,Option.bind_eq_some_iff,Option.pure_def,Option.some.injEq] at h
  obtain ⟨y,hy,ys',hys,rfl⟩:=h
  obtain ⟨h1,h2⟩:=evs_rep I hys
  refine ⟨by simpa using h1,fun i c u hc hu=>?_⟩
  cases i with
  | zero=>simp at hc hu; subst hc; subst hu; exact ev_rep I hy
  | succ i=>simp only [List.map_cons,List.getElem?_cons_succ] at hc hu; exact h2 i c u hc hu
theorem rep_v {x u:Value} (h:Rep E (.v x) u):u=x:=by cases h; rfl
theorem rep_agg {cs:List PV} {u:Value} (h:Rep E (.agg cs) u):∃ vs,u=.agg vs∧vs.size=cs.length∧(∀ (i:Nat) (u:Value),vs[i]?=some u→u.oneCell'=true)∧∀ (i:Nat) (c:PV) (u:Value),cs[i]?=some c→vs[i]?=some u→Rep E c u:=by
 cases h with | agg _ vs hl ho h=>exact ⟨vs,rfl,hl,ho,h⟩
def de:PV→PV
 | .sy x=>.v x.eval
 | p=>p
theorem de_rep {p:PV} {u:Value} (h:Rep E p u):Rep E (de p) u:=by
 by_cases hp:∃ x,p=.sy x
 ·obtain ⟨x,rfl⟩:=hp
  cases h
  exact .v _
 ·have:de p=p:=by
   cases p<;>first | rfl | exact absurd ⟨_,rfl⟩ hp
  rw [this]; exact h
theorem rep_sy {x:SX} {u:Value} (h:Rep E (.sy x) u):u=x.eval:=by cases h; rfl
theorem rep_toSX {p:PV} {u:Value} {x:SX} (h:Rep E p u) (hx:toSX p=some x):u=x.eval:=by
 unfold toSX at hx
 split at hx<;>first
  | (cases hx; exact rep_v h)
  | (cases hx; exact rep_sy h)
  | cases hx
theorem guardSX_spec {x y:SX} (h:guardSX x=some y):x=y∧x.ty.isSome=true:=by
 unfold guardSX at h
 split at h
 ·cases h; exact ⟨rfl,by assumption⟩
 ·cases h
theorem bin_eval {op:BinOp} {x y:SX} (h:(SX.bin op x y).ty.isSome=true):binW op x.eval y.eval=some (SX.bin op x y).eval:=by
 obtain ⟨t,ht⟩:=Option.isSome_iff_exists.1 h
 simp only [SX.ty] at ht
 cases hx:x.ty with
 | none=>rw [hx] at ht; cases ht
 | some tx=>cases hy:y.ty with
  | none=>rw [hx,hy] at ht; cases tx<;>cases ht
  | some ty =>
   rw [hx,hy] at ht
   obtain ⟨w,h1,h2⟩:=ty_bin ht (SX.has hx) (SX.has hy) rfl
   simp only [SX.eval,h1,Option.getD_some]
theorem un_eval {op:UnOp} {x:SX} (h:(SX.un op x).ty.isSome=true):unW op x.eval=some (SX.un op x).eval:=by
 obtain ⟨t,ht⟩:=Option.isSome_iff_exists.1 h
 simp only [SX.ty] at ht
 cases hx:x.ty with
 | none=>rw [hx] at ht; cases ht
 | some tx =>
  rw [hx] at ht
  obtain ⟨w,h1,h2⟩:=ty_un ht (SX.has hx)
  simp only [SX.eval,h1,Option.getD_some]
theorem binS_spec {op:BinOp} {p q:PV} {z:SX} {u v:Value} (h:binS op p q=some z) (hp:Rep E p u) (hq:Rep E q v):binW op u v=some z.eval∧z.ty.isSome=true:=by
 unfold binS at h
 split at h
 ·rename_i x y hx hy
  obtain ⟨rfl,h2⟩:=guardSX_spec h
  rw [rep_toSX hp hx,rep_toSX hq hy]
  exact ⟨bin_eval h2,h2⟩
 ·cases h
theorem beqS_spec {neg:Bool} {p q:PV} {z:SX} {u v:Value} (h:beqS neg p q=some z) (hp:Rep E p u) (hq:Rep E q v):∃ a b,u=.bool a∧v=.bool b∧z.eval=.bool (if neg then !(a==b) else a==b)∧z.ty.isSome=true:=by
 unfold beqS at h
 split at h
 ·rename_i x y hx hy
  obtain ⟨rfl,h2⟩:=guardSX_spec h
  have h3:=h2
  simp only [SX.ty] at h3
  split at h3
  ·rename_i hh
   obtain ⟨a,ha⟩:=SX.has hh.1
   obtain ⟨b,hb⟩:=SX.has hh.2
   rw [rep_toSX hp hx,rep_toSX hq hy]
   exact ⟨a,b,ha,hb,by simp only [SX.eval,ha,hb],h2⟩
  ·cases h3
 ·cases h
theorem sx_bool {x:SX} (h:x.ty=some .b):∃ t,x.eval=.bool t:=SX.has h
theorem rep_cells {p:PV} {u:Value} (h:Rep E p u) (hs:p.stor=true):u.cells.size=p.cells.length∧(∀ (i:Nat) (x:Value),u.cells[i]?=some x→x.oneCell'=true) ∧
  ∀ (i:Nat) (c:PV) (x:Value),p.cells[i]?=some c→u.cells[i]?=some x→Rep E c x:=by
 have one:∀ {p:PV} {u:Value},Rep E p u→p.cells=[p]→u.cells=#[u]→u.oneCell'=true→u.cells.size=p.cells.length∧(∀ (i:Nat) (x:Value),u.cells[i]?=some x→x.oneCell'=true) ∧
  ∀ (i:Nat) (c:PV) (x:Value),p.cells[i]?=some c→u.cells[i]?=some x→Rep E c x:=by
  intro p u h h1 h2 h3
  rw [h1,h2]
  refine ⟨rfl,?_,?_⟩
  ·intro i x hx
   cases i with
   | zero=>simp at hx; subst hx; exact h3
   | succ i=>simp at hx
  ·intro i c x hc hx
   cases i with
   | zero=>simp at hc hx; subst hc; subst hx; exact h
   | succ i=>simp at hx
 cases h with
 | v x =>
  have h1:u.oneCell'=true:=hs
  exact one (.v u) rfl (by cases u<;>first | rfl | simp [Value.oneCell'] at h1) h1
 | agg cs vs hl ho h=>exact ⟨hl,ho,h⟩
 | tup cs vs hl h=>cases hs
 | emp c a cap hc hn=>exact one (.emp c a cap hc hn) rfl rfl rfl
 | sl c es rb off cap sz U hne hS hc hcap hsz0 hsz hm ho h=>exact one (.sl c es rb off cap sz U hne hS hc hcap hsz0 hsz hm ho h) rfl rfl rfl
 | own b s off len cap en c a hb ha hn hlen hc htot hcap=>exact one (.own b s off len cap en c a hb ha hn hlen hc htot hcap) rfl rfl rfl
 | optr b s i off en hb=>exact one (.optr b s i off en hb) rfl rfl rfl
 | sptr cs rb off U hS hm ho h=>exact one (.sptr cs rb off U hS hm ho h) rfl rfl rfl
 | clo f fs cs us vs hk g hl h=>exact one (.clo f fs cs us vs hk g hl h) rfl rfl rfl
 | mp b s en hb=>exact one (.mp b s en hb) rfl rfl rfl
 | sy x =>
  have h1:x.eval.oneCell'=true:=SX.one hs
  exact one (.sy x) rfl (by generalize x.eval=u at h1; cases u<;>first | rfl | simp [Value.oneCell'] at h1) h1
 | dead u=>cases hs
theorem ldv_rep {g:Bool} {m:Nat} {e p:PV} {off:Nat} (hl:ldv g m e off=some p) {X:Nat→Value}
  (hX:∀ (j:Nat) (c:PV),e.cells[j]?=some c→Rep E c (X j)) (hX1:∀ j,(X j).oneCell'=true) :
  off+m≤e.cells.length∧(g=false→m=1)∧Rep E p (if g then .agg ((List.range m).map fun j=>X (off+j)).toArray else X off):=by
 have aggOf:∀ {cs:List PV},(∀ (j:Nat) (c:PV),cs[j]?=some c→Rep E c (X (off+j)))→Rep E (.agg cs) (.agg ((List.range cs.length).map fun j=>X (off+j)).toArray):=by
  intro cs hcs
  refine .agg _ _ (by simp) ?_ ?_
  ·intro i u hu
   have hlt:i < cs.length:=by have:=(Array.getElem?_eq_some_iff.1 hu).1; simpa using this
   simp [hlt] at hu
   subst hu; exact hX1 _
  ·intro i c u hc hu
   have hlt:i < cs.length:=(List.getElem?_eq_some_iff.1 hc).1
   simp [hlt] at hu
   subst hu; exact hcs i c hc
 unfold ldv at hl
 split at hl
 ·rename_i hw
  obtain ⟨rfl,hm,hg⟩:=hw
  cases hl
  cases e with
  | agg cs =>
   have hg':g=true:=hg.symm
   subst hg'
   simp only [PV.cells] at hm hX
   subst hm
   exact ⟨by simp [PV.cells],by simp,by simpa using aggOf (cs:=cs) (fun j c hc=>by simpa using hX j c hc)⟩
  | _ =>
   have hg':g=false:=hg.symm
   subst hg'
   simp only [PV.cells,List.length_cons,List.length_nil] at hm
   subst hm
   exact ⟨by simp [PV.cells],by simp,by simpa using hX 0 _ (by simp [PV.cells])⟩
 ·split at hl
  ·rename_i hle
   cases g with
   | true =>
    simp only [if_true,Option.some.injEq] at hl
    subst hl
    have:=aggOf (cs:=(e.cells.drop off).take m) (fun j c hc=>by
     rw [List.getElem?_take] at hc
     split at hc
     ·rw [List.getElem?_drop] at hc; exact hX _ _ hc
     ·cases hc)
    have hlen:((e.cells.drop off).take m).length=m:=by simp; omega
    rw [hlen] at this
    exact ⟨hle,by simp,this⟩
   | false =>
    simp only [Bool.false_eq_true,if_false] at hl
    split at hl
    ·rename_i hm
     subst hm
     exact ⟨hle,fun _=>rfl,by simpa using hX _ _ hl⟩
    ·cases hl
  ·cases hl
end Go.Proofs.Yticljphbbdnomaa.VL
end
