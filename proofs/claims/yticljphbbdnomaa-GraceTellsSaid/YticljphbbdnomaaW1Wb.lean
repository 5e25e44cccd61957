import Derived.Test.YticljphbbdnomaaW1Vy
namespace Go.Proofs.Yticljphbbdnomaa.VL
open Go
set_option linter.unusedVariables false
set_option linter.unusedSimpArgs false
set_option linter.unusedSectionVars false
variable [Val]
def ikLo (k:IntKind):Int:=match k with | .i8=>-128 | .i16=>-32768 | .i32=>-2147483648 | .i64=>-9223372036854775808 | _=>0
def ikHi (k:IntKind):Int:=match k with | .i8=>127 | .i16=>32767 | .i32=>2147483647 | .i64=>9223372036854775807 | .u8=>255 | .u16=>65535 | .u32=>4294967295 | .u64=>18446744073709551615
theorem wrap_in {k:IntKind} {x:Int} (h0:ikLo k≤x) (h1:x≤ikHi k):k.wrap x=x:=by
 cases k<;>simp only [ikLo,ikHi] at h0 h1<;>simp only [IntKind.wrap,IntKind.bits,IntKind.signed]<;>simp<;>(try split)<;>omega
def intV:Value→Int
 | .int _ n=>n
 | _=>0
def SX.int (x:SX):Int:=intV x.eval
abbrev Bd:=Option (Int×Int)
def Bd.has (b:Bd) (n:Int):Prop:=match b with | some (lo,hi)=>lo≤n∧n≤hi | none=>True
structure Tm where
 k:Int
 x:SX
 b:Bd
structure LE where
 c:Int
 ts:List Tm
def tmsVal:List Tm→Int
 | []=>0
 | t::r=>t.k * t.x.int+tmsVal r
def LE.val (e:LE):Int:=e.c+tmsVal e.ts
def LE.ok (e:LE):Prop:=∀ t ∈ e.ts,Bd.has t.b t.x.int
def addT (t:Tm):List Tm→List Tm
 | []=>[t]
 | u::r=>if sameSX t.x u.x then (if u.k+t.k=0 then r else ⟨u.k+t.k,u.x,u.b⟩::r) else u::addT t r
def LE.add (a b:LE):LE:=⟨a.c+b.c,b.ts.foldr addT a.ts⟩
def LE.scale (k:Int) (a:LE):LE:=if k=0 then ⟨0,[]⟩ else ⟨k * a.c,a.ts.map fun t=>⟨k * t.k,t.x,t.b⟩⟩
def LE.sub (a b:LE):LE:=a.add (b.scale (-1))
def LE.plus (a:LE) (n:Int):LE:=⟨a.c+n,a.ts⟩
def bdT (t:Tm):Bd:=match t.b with
 | some (lo,hi)=>if 0≤t.k then some (t.k * lo,t.k * hi) else some (t.k * hi,t.k * lo)
 | none=>none
def bdTs:List Tm→Bd
 | []=>some (0,0)
 | t::r=>match bdT t,bdTs r with | some (a,b),some (c,d)=>some (a+c,b+d) | _,_=>none
def LE.bd (e:LE):Bd:=match bdTs e.ts with | some (a,b)=>some (e.c+a,e.c+b) | none=>none
structure Facts where
 rng:List (Nat×Int×Int)
 le:List LE
 at_:List (SX×Bool)
structure Facts.holds (F:Facts):Prop where
 rng:∀ r ∈ F.rng,r.2.1≤Val.i r.1∧Val.i r.1≤r.2.2
 le:∀ e ∈ F.le,e.ok∧e.val≤0
 at_:∀ x ∈ F.at_,x.1.eval=.bool x.2
def rngOf (n:Nat):List (Nat×Int×Int)→Bd
 | []=>none
 | r::l=>if r.1=n then some r.2 else rngOf n l
def atomOf (x:SX) (b:Bd):LE:=⟨0,[⟨1,x,b⟩]⟩
def inK (k:IntKind) (e:LE):Bool:=match e.bd with | some (lo,hi)=>decide (ikLo k≤lo)&&decide (hi≤ikHi k) | none=>false
def remBd (e:LE) (m:Int):Bd:=match e.bd with | some (lo,hi)=>if 0≤lo∧0 < m then some (0,if hi≤m - 1 then hi else m - 1) else none | none=>none
def remBdS (e:LE):Bd:=match e.bd with | some (lo,hi)=>if 0≤lo then some (0,hi) else none | none=>none
def quoBd (e:LE) (m:Int):Bd:=match e.bd with | some (lo,hi)=>if 0≤lo∧0 < m then some (lo / m,hi / m) else none | none=>none
def constOf (e:LE):Option Int:=match e.ts with | []=>some e.c | _=>none
def kindOf (x:SX):Option IntKind:=match x.ty with | some (.i k)=>some k | _=>none
def lin (F:Facts):SX→LE
 | .i k n=>atomOf (.i k n) (rngOf n F.rng)
 | .c (.int k v)=>⟨v,[]⟩
 | .bin .add x y=>match kindOf x with
  | some k=>if inK k ((lin F x).add (lin F y)) then (lin F x).add (lin F y) else atomOf (.bin .add x y) none
  | none=>atomOf (.bin .add x y) none
 | .bin .sub x y=>match kindOf x with
  | some k=>if inK k ((lin F x).sub (lin F y)) then (lin F x).sub (lin F y) else atomOf (.bin .sub x y) none
  | none=>atomOf (.bin .sub x y) none
 | .bin .mul x y=>match kindOf x,constOf (lin F x),constOf (lin F y) with
  | some k,some m,_=>if inK k ((lin F y).scale m) then (lin F y).scale m else atomOf (.bin .mul x y) none
  | some k,_,some m=>if inK k ((lin F x).scale m) then (lin F x).scale m else atomOf (.bin .mul x y) none
  | _,_,_=>atomOf (.bin .mul x y) none
 | .bin .rem x (.c (.int k m))=>atomOf (.bin .rem x (.c (.int k m))) (remBd (lin F x) m)
 | .bin .rem x (.i k n)=>atomOf (.bin .rem x (.i k n)) (remBdS (lin F x))
 | .bin .quo x (.c (.int k m))=>match kindOf x with
  | some k'=>(match quoBd (lin F x) m with
   | some (lo,hi)=>if ikLo k'≤lo∧hi≤ikHi k' then atomOf (.bin .quo x (.c (.int k m))) (some (lo,hi)) else atomOf (.bin .quo x (.c (.int k m))) none
   | none=>atomOf (.bin .quo x (.c (.int k m))) none)
  | none=>atomOf (.bin .quo x (.c (.int k m))) none
 | .conv k x=>if inK k (lin F x) then lin F x else atomOf (.conv k x) none
 | x=>atomOf x none
def prove (F:Facts) (e:LE):Bool :=
 (match e.bd with | some (_,hi)=>decide (hi≤0) | none=>false) || F.le.any fun f=>match (e.sub f).bd with | some (_,hi)=>decide (hi≤0) | none=>false
def seekAt (x:SX):List (SX×Bool)→Option Bool
 | []=>none
 | y::r=>if sameSX x y.1 then some y.2 else seekAt x r
def decCmp (F:Facts) (op:BinOp) (d:LE):Option Bool:=match op with
 | .lss=>if prove F (d.plus 1) then some true else if prove F (d.scale (-1)) then some false else none
 | .leq=>if prove F d then some true else if prove F ((d.scale (-1)).plus 1) then some false else none
 | .gtr=>if prove F ((d.scale (-1)).plus 1) then some true else if prove F d then some false else none
 | .geq=>if prove F (d.scale (-1)) then some true else if prove F (d.plus 1) then some false else none
 | .eql=>if prove F d&&prove F (d.scale (-1)) then some true else if prove F (d.plus 1) || prove F ((d.scale (-1)).plus 1) then some false else none
 | .neq=>if prove F d&&prove F (d.scale (-1)) then some false else if prove F (d.plus 1) || prove F ((d.scale (-1)).plus 1) then some true else none
 | _=>none
def dec (F:Facts):SX→Option Bool
 | .c (.bool t)=>some t
 | .un .not x=>(dec F x).map (!·)
 | .and x y=>match dec F x,dec F y with
  | some false,_=>some false
  | _,some false=>some false
  | some true,some true=>some true
  | _,_=>none
 | .beq neg x y=>match dec F x,dec F y with
  | some a,some b=>some (if neg then !(a==b) else a==b)
  | _,_=>seekAt (.beq neg x y) F.at_
 | .bin op x y=>match x.ty,y.ty with
  | some (.i k),some (.i k')=>if k=k' then (match decCmp F op ((lin F x).sub (lin F y)) with | some r=>some r | none=>seekAt (.bin op x y) F.at_) else none
  | _,_=>seekAt (.bin op x y) F.at_
 | x=>seekAt x F.at_
def cmpFacts (op:BinOp) (d:LE) (t:Bool):List LE:=match op,t with
 | .lss,true=>[d.plus 1]
 | .lss,false=>[d.scale (-1)]
 | .leq,true=>[d]
 | .leq,false=>[(d.scale (-1)).plus 1]
 | .gtr,true=>[(d.scale (-1)).plus 1]
 | .gtr,false=>[d]
 | .geq,true=>[d.scale (-1)]
 | .geq,false=>[d.plus 1]
 | .eql,true=>[d,d.scale (-1)]
 | .neq,false=>[d,d.scale (-1)]
 | _,_=>[]
def tighten (e:LE):List (Nat×Int×Int)→List (Nat×Int×Int)
 | []=>[]
 | r::l=>match e.ts with
  | [⟨k,.i _ n,_⟩]=>if n=r.1 then (if k=1 then (r.1,r.2.1,if -e.c < r.2.2 then -e.c else r.2.2) else if k=-1 then (r.1,(if r.2.1 < e.c then e.c else r.2.1),r.2.2) else r)::l else r::tighten e l
  | _=>r::l
def factOf (F:Facts) (x:SX) (t:Bool):List LE:=match x with
 | .bin op a b=>match a.ty,b.ty with
  | some (.i k),some (.i k')=>if k=k' then cmpFacts op ((lin F a).sub (lin F b)) t else []
  | _,_=>[]
 | _=>[]
def Facts.put (F:Facts) (e:LE):Facts:=⟨tighten e F.rng,e::F.le,F.at_⟩
def Facts.add (F:Facts):SX→Bool→Facts
 | .un .not x,t=>Facts.add F x (!t)
 | .and x y,true=>Facts.add (Facts.add F x true) y true
 | x,t=>(factOf F x t).foldl Facts.put ⟨F.rng,F.le,(x,t)::F.at_⟩
def Tr.all {α:Type} (leaf:Facts→α→Bool):Facts→Tr α→Bool
 | _,.no=>false
 | F,.ok a=>leaf F a
 | F,.br x t f=>if x.ty=some .b then (match dec F x with
  | some true=>t.all leaf F
  | some false=>f.all leaf F
  | none=>t.all leaf (F.add x true)&&f.all leaf (F.add x false)) else false
end Go.Proofs.Yticljphbbdnomaa.VL
