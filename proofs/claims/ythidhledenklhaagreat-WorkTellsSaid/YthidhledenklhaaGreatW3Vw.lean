import Derived.Test.YthidhledenklhaaGreatW3Vv
namespace Go.Proofs.YthidhledenklhaaGreat.VL
open Go
set_option linter.unusedVariables false
set_option linter.unusedSimpArgs false
set_option linter.unusedSectionVars false
variable [Val]
structure FI where
 ic:ICode
 al:List Nat
 nt:Nat
 ts:List RV
def FI.ok (P:Program) (f:Nat) (x:FI):Prop:=∃ fn c,P.funcs[f]?=some fn∧fn.body=some c∧callable P f=true∧fn.results=(x.ts.map RV.to).toArray∧x.ts.all (RV.okB P)=true∧fn.ntmps=x.nt∧(fun o=>cCode P (slotF x.al o) c)=fun o=>some (x.ic.at o)
def find (f:Nat):List (Nat×FI)→Option FI
 | []=>none
 | x::r=>if x.1=f then some x.2 else find f r
mutual
def newP (n:Nat):PV→Bool
 | .v _=>false
 | .agg cs=>newL n cs
 | .tup cs=>newL n cs
 | .sl _ es=>newL n es
 | .own _ s _ _ _ _=>n≤s
 | .optr _ s _ _=>n≤s
 | .sptr cs=>newL n cs
 | .clo _ fs cs=>newL n fs || newL n cs
 | .mp _ s=>n≤s
 | .sy _=>false
 | .dead=>false
def newL (n:Nat):List PV→Bool
 | []=>false
 | p::r=>newP n p || newL n r
end
def newB (n:Nat):Blk→Bool
 | .cells es=>newL n es
 | .map ps=>ps.any fun p=>newP n p.1 || newP n p.2
 | .iter _ _=>false
def trim (k n:Nat) (r:PV) (h:List Slot):List Slot :=
 if newP n r || (h.take k).any (fun x=>match x with | some (s,b)=>decide (n≤s) || newB n b | none=>false) then h else h.take k
def fin (k n:Nat) (ts:List RV) (st:St):Tr (PV×List Slot×Nat):=match resR st ts with
 | some r=>.ok (r,trim k n r st.h,st.n)
 | none=>.no
variable {P:Program}
end Go.Proofs.YthidhledenklhaaGreat.VL
