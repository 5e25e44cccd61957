import Derived.Calls
import Derived.Laws.Rows
import Derived.Laws.Append
import Derived.Laws.AppendOwn
namespace Go.Proofs.Ytemdbhdjchkllaa.VL
open Go
set_option linter.unusedVariables false
set_option linter.unusedSimpArgs false
set_option linter.unusedSectionVars false
def arith (op:BinOp) (k:IntKind) (a b:Int):Option Value :=
 match op with
 | .add=>some (.int k (k.wrap (a+b)))
 | .sub=>some (.int k (k.wrap (a - b)))
 | .mul=>some (.int k (k.wrap (a * b)))
 | .quo=>if b=0 then none else some (.int k (k.wrap (a.tdiv b)))
 | .rem=>if b=0 then none else some (.int k (a.tmod b))
 | .and=>some (.int k (k.wrap (BitVec.ofInt k.bits a &&& BitVec.ofInt k.bits b).toNat))
 | .or=>some (.int k (k.wrap (BitVec.ofInt k.bits a ||| BitVec.ofInt k.bits b).toNat))
 | .xor=>some (.int k (k.wrap (BitVec.ofInt k.bits a ^^^ BitVec.ofInt k.bits b).toNat))
 | .andNot=>some (.int k (k.wrap (BitVec.ofInt k.bits a &&& ~~~ BitVec.ofInt k.bits b).toNat))
 | .eql=>some (.bool (a==b))
 | .neq=>some (.bool (a != b))
 | .lss=>some (.bool (a < b))
 | .leq=>some (.bool (a≤b))
 | .gtr=>some (.bool (a > b))
 | .geq=>some (.bool (a ≥ b))
 | _=>none
def shifts (op:BinOp) (k:IntKind) (a b:Int):Option Value :=
 if b < 0 then none else
 match op with
 | .shl=>some (.int k (k.wrap (a * 2 ^ (min b.toNat k.bits))))
 | .shr=>some (.int k (a.fdiv (2 ^ (min b.toNat k.bits))))
 | _=>none
def strOp (op:BinOp) (x y:ByteArray):Option Value :=
 match op with
 | .add=>if x.size+y.size≤4611686018427387904 then some (.string (x++y)) else none
 | .eql=>some (.bool (x.toList==y.toList))
 | .neq=>some (.bool !(x.toList==y.toList))
 | .lss=>some (.bool (Op.bytesLess x.toList y.toList))
 | .leq=>some (.bool (Op.bytesLess x.toList y.toList || x.toList==y.toList))
 | .gtr=>some (.bool !(Op.bytesLess x.toList y.toList || x.toList==y.toList))
 | .geq=>some (.bool !(Op.bytesLess x.toList y.toList))
 | _=>none
def binW (op:BinOp):Value→Value→Option Value
 | .int k a,.int k' b =>
  match op with
  | .shl | .shr=>shifts op k a b
  | op=>if k=k' then arith op k a b else none
 | .string a,.string b=>strOp op a b
 | _,_=>none
def unW (op:UnOp):Value→Option Value
 | .bool b=>match op with | .not=>some (.bool !b) | _=>none
 | .int k n=>match op with
  | .neg=>some (.int k (k.wrap (0 - n)))
  | .xor=>some (.int k (k.wrap (BitVec.ofInt k.bits (if k.signed then -1 else k.max) ^^^ BitVec.ofInt k.bits n).toNat))
  | _=>none
 | _=>none
class Val where
 i:Nat→Int
 nz:∀ n,1000≤n→i n≠0
 b:Nat→Bool
 s:Nat→ByteArray
inductive SX where
 | i (k:IntKind) (n:Nat)
 | b (n:Nat)
 | s (n:Nat)
 | c (v:Value)
 | bin (op:BinOp) (x y:SX)
 | beq (neg:Bool) (x y:SX)
 | and (x y:SX)
 | un (op:UnOp) (x:SX)
 | conv (k:IntKind) (x:SX)
 | len (x:SX)
 deriving Inhabited
inductive Ty where
 | i (k:IntKind)
 | b
 | s
 deriving DecidableEq
def isNz:SX→Bool
 | .c (.int _ v)=>decide (v≠0)
 | .i _ n=>Nat.ble 1000 n
 | _=>false
def isNn:SX→Bool
 | .c (.int _ v)=>decide (0≤v)
 | _=>false
def tyBin (op:BinOp) (y:SX):Option Ty→Option Ty→Option Ty
 | some (.i k),some (.i k')=>match op with
  | .add | .sub | .mul | .and | .or | .xor | .andNot=>if k=k' then some (.i k) else none
  | .quo | .rem=>if k=k'∧isNz y=true then some (.i k) else none
  | .shl | .shr=>if isNn y=true then some (.i k) else none
  | .eql | .neq | .lss | .leq | .gtr | .geq=>if k=k' then some .b else none
 | some .s,some .s=>match op with
  | .eql | .neq | .lss | .leq | .gtr | .geq=>some .b
  | _=>none
 | _,_=>none
def tyUn (op:UnOp):Option Ty→Option Ty
 | some .b=>match op with | .not=>some .b | _=>none
 | some (.i k)=>match op with | .neg | .xor=>some (.i k) | _=>none
 | _=>none
def SX.ty:SX→Option Ty
 | .i k _=>some (.i k)
 | .b _=>some .b
 | .s _=>some .s
 | .c (.int k _)=>some (.i k)
 | .c (.bool _)=>some .b
 | .c (.string _)=>some .s
 | .c _=>none
 | .bin op x y=>tyBin op y x.ty y.ty
 | .beq _ x y=>if x.ty=some .b∧y.ty=some .b then some .b else none
 | .and x y=>if x.ty=some .b∧y.ty=some .b then some .b else none
 | .un op x=>tyUn op x.ty
 | .conv k x=>match x.ty with | some (.i _)=>some (.i k) | _=>none
 | .len x=>match x.ty with | some .s=>some (.i .i64) | _=>none
def SX.eval [Val]:SX→Value
 | .i k n=>.int k (Val.i n)
 | .b n=>.bool (Val.b n)
 | .s n=>.string (Val.s n)
 | .c v=>v
 | .bin op x y=>(binW op x.eval y.eval).getD undef
 | .beq neg x y=>match x.eval,y.eval with | .bool p,.bool q=>.bool (if neg then !(p==q) else p==q) | _,_=>undef
 | .and x y=>match x.eval,y.eval with | .bool p,.bool q=>.bool (p&&q) | _,_=>undef
 | .un op x=>(unW op x.eval).getD undef
 | .conv k x=>match x.eval with | .int _ m=>.int k (k.wrap m) | _=>undef
 | .len x=>match x.eval with | .string m=>.int .i64 m.size | _=>undef
def Ty.has:Ty→Value→Prop
 | .i k,v=>∃ n,v=.int k n
 | .b,v=>∃ b,v=.bool b
 | .s,v=>∃ s,v=.string s
theorem ty_bin {op:BinOp} {y:SX} [Val] {tx ty t:Ty} {u v:Value} (h:tyBin op y (some tx) (some ty)=some t) (hu:tx.has u) (hv:ty.has v) (hy:v=y.eval):∃ w,binW op u v=some w∧t.has w:=by
  cases tx<;>cases ty<;>simp only [tyBin] at h<;>first | (cases h; done) | skip
  · rename_i k k'
    obtain ⟨m,rfl⟩:=hu
    obtain ⟨n,rfl⟩:=hv
    have nz:isNz y=true→n≠0:=by
      intro hz
      unfold isNz at hz
      split at hz
      · simp only [SX.eval] at hy; cases hy; simpa using hz
      · rename_i k2 n2
        simp only [SX.eval] at hy
        cases hy
        exact Val.nz _ (by rw [Nat.ble_eq] at hz; exact hz)
      · cases hz
    have nn:isNn y=true→0≤n:=by
      intro hz
      unfold isNn at hz
      split at hz
      · simp only [SX.eval] at hy; cases hy; simpa using hz
      · cases hz
    cases op<;>simp only at h<;>first
      | (cases h; done)
      | (split at h
         · rename_i hk
           cases h
           first
             | (subst hk; simp only [binW,if_true,arith]; exact ⟨_,rfl,_,rfl⟩)
             | (obtain ⟨rfl,hz⟩:=hk; have:=nz hz; simp only [binW,if_true,arith,if_neg this]; exact ⟨_,rfl,_,rfl⟩)
             | (have:=nn hk; simp only [binW,shifts]; rw [if_neg (by omega)]; exact ⟨_,rfl,_,rfl⟩)
         · cases h)
  · obtain ⟨m,rfl⟩:=hu
    obtain ⟨n,rfl⟩:=hv
    cases op<;>simp only at h<;>first
      | (cases h; done)
      | (cases h; exact ⟨_,rfl,_,rfl⟩)
theorem ty_un {op:UnOp} {tx t:Ty} {u:Value} (h:tyUn op (some tx)=some t) (hu:tx.has u):∃ w,unW op u=some w∧t.has w:=by
 cases tx<;>simp only [tyUn] at h<;>first | (cases h; done) | skip
 ·obtain ⟨m,rfl⟩:=hu
  cases op<;>simp only at h<;>first
   | (cases h; done)
   | (cases h; exact ⟨_,rfl,_,rfl⟩)
 ·obtain ⟨m,rfl⟩:=hu
  cases op<;>simp only at h<;>first
   | (cases h; done)
   | (cases h; exact ⟨_,rfl,_,rfl⟩)
theorem SX.has [Val]:∀ {x:SX} {t:Ty},x.ty=some t→t.has x.eval
 | .i k n,t,h=>by cases h; exact ⟨_,rfl⟩
 | .b n,t,h=>by cases h; exact ⟨_,rfl⟩
 | .s n,t,h=>by cases h; exact ⟨_,rfl⟩
 | .c v,t,h=>by cases v<;>simp only [SX.ty] at h<;>first | (cases h; done) | (cases h; exact ⟨_,rfl⟩)
 | .bin op x y,t,h=>by
  simp only [SX.ty] at h
  cases hx:x.ty with
  | none=>rw [hx] at h; cases h
  | some tx=>cases hy:y.ty with
   | none=>rw [hx,hy] at h; cases tx<;>cases h
   | some ty =>
    rw [hx,hy] at h
    obtain ⟨w,h1,h2⟩:=ty_bin h (SX.has hx) (SX.has hy) rfl
    simp only [SX.eval,h1,Option.getD_some]; exact h2
 | .beq neg x y,t,h=>by
  simp only [SX.ty] at h
  split at h
  ·rename_i hh
   cases h
   obtain ⟨a,ha⟩:=SX.has hh.1
   obtain ⟨b,hb⟩:=SX.has hh.2
   simp only [SX.eval,ha,hb]; exact ⟨_,rfl⟩
  ·cases h
 | .and x y,t,h=>by
  simp only [SX.ty] at h
  split at h
  ·rename_i hh
   cases h
   obtain ⟨a,ha⟩:=SX.has hh.1
   obtain ⟨b,hb⟩:=SX.has hh.2
   simp only [SX.eval,ha,hb]; exact ⟨_,rfl⟩
  ·cases h
 | .un op x,t,h=>by
  simp only [SX.ty] at h
  cases hx:x.ty with
  | none=>rw [hx] at h; cases h
  | some tx =>
   rw [hx] at h
   obtain ⟨w,h1,h2⟩:=ty_un h (SX.has hx)
   simp only [SX.eval,h1,Option.getD_some]; exact h2
 | .conv k x,t,h=>by
  simp only [SX.ty] at h
  split at h
  ·rename_i k' hx
   cases h
   obtain ⟨n,hn⟩:=SX.has hx
   simp only [SX.eval,hn]; exact ⟨_,rfl⟩
  ·cases h
 | .len x,t,h=>by
  simp only [SX.ty] at h
  split at h
  ·rename_i hx
   cases h
   obtain ⟨n,hn⟩:=SX.has hx
   simp only [SX.eval,hn]; exact ⟨_,rfl⟩
  ·cases h
theorem SX.one [Val] {x:SX} (h:x.ty.isSome=true):x.eval.oneCell'=true:=by
 obtain ⟨t,ht⟩:=Option.isSome_iff_exists.1 h
 have:=SX.has ht
 cases t<;>obtain ⟨n,hn⟩:=this<;>rw [hn]<;>rfl
inductive PV where
 | v (x:Value)
 | agg (cs:List PV)
 | tup (cs:List PV)
 | sl (clip:Bool) (es:List PV)
 | own (b s sz off len:Nat) (cap:Option Nat)
 | optr (b s i off:Nat)
 | sptr (cs:List PV)
 | clo (f:Nat) (fs cs:List PV)
 | mp (b s:Nat)
 | sy (x:SX)
 | dead
 deriving Inhabited
def PV.cells:PV→List PV
 | .agg cs=>cs
 | x=>[x]
structure Ent where
 rb:Nat
 base:Nat
 sz:Nat
 tot:Nat
 deriving Inhabited
inductive Blk where
 | cells (es:List PV)
 | map (es:List (PV×PV))
 | iter (s:ByteArray) (pos:Nat)
 deriving Inhabited
abbrev Slot:=Option (Nat×Blk)
structure Env where
 w:World
 σ:Nat→Option Ent
 S:Nat→Prop
variable [Val]
inductive Rep (E:Env):PV→Value→Prop
 | v (x:Value):Rep E (.v x) x
 | agg (cs:List PV) (vs:Array Value) (hl:vs.size=cs.length) (ho:∀ (i:Nat) (u:Value),vs[i]?=some u→u.oneCell'=true) (h:∀ (i:Nat) (c:PV) (u:Value),cs[i]?=some c→vs[i]?=some u→Rep E c u):Rep E (.agg cs) (.agg vs)
 | tup (cs:List PV) (vs:Array Value) (hl:vs.size=cs.length) (h:∀ (i:Nat) (c:PV) (u:Value),cs[i]?=some c→vs[i]?=some u→Rep E c u):Rep E (.tup cs) (.tuple vs)
 | emp (c:Bool) (a:Option Addr) (cap:Nat) (hc:c=true→cap=0) (hn:a=none→cap=0):Rep E (.sl c []) (.slice a 0 cap)
 | sl (c:Bool) (es:List PV) (rb off cap sz:Nat) (U:Nat→Nat→Value) (hne:es≠[]) (hS:E.S rb) (hc:c=true→cap=es.length) (hcap:es.length≤cap) (hsz0:0 < sz)
   (hsz:∀ (i:Nat) (e:PV),es[i]?=some e→e.cells.length=sz)
   (hm:∀ (i:Nat) (e:PV) (j:Nat) (c:PV),es[i]?=some e→e.cells[j]?=some c→E.w.cell? ⟨rb,off+i * sz+j,none⟩=some (U i j))
   (ho:∀ (i j:Nat),(U i j).oneCell'=true)
   (h:∀ (i:Nat) (e:PV) (j:Nat) (c:PV),es[i]?=some e→e.cells[j]?=some c→Rep E c (U i j)):Rep E (.sl c es) (.slice (some ⟨rb,off,none⟩) es.length cap)
 | own (b s off len:Nat) (cap:Option Nat) (en:Ent) (c:Nat) (a:Option Addr) (hb:E.σ s=some en) (ha:c≠0→a=some ⟨en.rb,en.base+off * en.sz,none⟩) (hn:a=none→c=0) (hlen:len≤c)
   (hc:∀ k,cap=some k→c=k) (htot:off+c≤en.tot) (hcap:cap=none→off+c=en.tot) :
   Rep E (.own b s en.sz off len cap) (.slice a len c)
 | optr (b s i off:Nat) (en:Ent) (hb:E.σ s=some en):Rep E (.optr b s i off) (.pointer (some ⟨en.rb,en.base+i * en.sz+off,none⟩))
 | sptr (cs:List PV) (rb off:Nat) (U:Nat→Value) (hS:E.S rb) (hm:∀ (j:Nat) (c:PV),cs[j]?=some c→E.w.cell? ⟨rb,off+j,none⟩=some (U j)) (ho:∀ (j:Nat),(U j).oneCell'=true) (h:∀ (j:Nat) (c:PV),cs[j]?=some c→Rep E c (U j)) :
   Rep E (.sptr cs) (.pointer (some ⟨rb,off,none⟩))
 | clo (f:Nat) (fs cs:List PV) (us vs:Array Value) (hk:us.size=fs.length) (g:∀ (i:Nat) (c:PV) (u:Value),fs[i]?=some c→us[i]?=some u→Rep E c u)
   (hl:vs.size=cs.length) (h:∀ (i:Nat) (c:PV) (u:Value),cs[i]?=some c→vs[i]?=some u→Rep E c u):Rep E (.clo f fs cs) (.func (.func f) us vs)
 | mp (b s:Nat) (en:Ent) (hb:E.σ s=some en):Rep E (.mp b s) (.map (some en.rb))
 | sy (x:SX):Rep E (.sy x) x.eval
 | dead (u:Value):Rep E .dead u
structure Env.le (E E':Env):Prop where
 S:∀ r,E.S r→E'.S r
 mem:∀ r,E.S r→E'.w.heap[r]?=E.w.heap[r]?
 σ:∀ (b:Nat) (en:Ent),E.σ b=some en→E'.σ b=some en
theorem Env.le.refl (E:Env):E.le E:=⟨fun _ h=>h,fun _ _=>rfl,fun _ _ h=>h⟩
theorem Env.le.trans {A B C:Env} (h:A.le B) (k:B.le C):A.le C :=
 ⟨fun r hr=>k.S r (h.S r hr),fun r hr=>(k.mem r (h.S r hr)).trans (h.mem r hr),fun b en hb=>k.σ b en (h.σ b en hb)⟩
theorem Env.le.cell {E E':Env} (h:E.le E') {r o:Nat} (hr:E.S r):E'.w.cell? ⟨r,o,none⟩=E.w.cell? ⟨r,o,none⟩:=by
 simp [World.cell?,h.mem r hr]
theorem Rep.mono {E E':Env} (hE:E.le E') {p:PV} {u:Value} (h:Rep E p u):Rep E' p u:=by
 induction h with
 | v x=>exact .v x
 | agg cs vs hl ho _ ih=>exact .agg cs vs hl ho ih
 | tup cs vs hl _ ih=>exact .tup cs vs hl ih
 | emp c a cap hc hn=>exact .emp c a cap hc hn
 | sl c es rb off cap sz U hne hS hc hcap hsz0 hsz hm ho _ ih =>
  exact .sl c es rb off cap sz U hne (hE.S _ hS) hc hcap hsz0 hsz (fun i e j c he hj=>by rw [hE.cell hS]; exact hm i e j c he hj) ho ih
 | own b s off len cap en c a hb ha hn hlen hc htot hcap=>exact .own b s off len cap en c a (hE.σ _ _ hb) ha hn hlen hc htot hcap
 | optr b s i off en hb=>exact .optr b s i off en (hE.σ _ _ hb)
 | sptr cs rb off U hS hm ho _ ih=>exact .sptr cs rb off U (hE.S _ hS) (fun j c hj=>by rw [hE.cell hS]; exact hm j c hj) ho ih
 | clo f fs cs us vs hk _ hl _ ih1 ih2=>exact .clo f fs cs us vs hk ih1 hl ih2
 | mp b s en hb=>exact .mp b s en (hE.σ _ _ hb)
 | sy x=>exact .sy x
 | dead u=>exact .dead u
def BRep (E:Env) (en:Ent):Blk→Prop
 | .cells es=>es.length≤en.tot∧0 < en.sz∧(∀ (i:Nat) (e:PV),es[i]?=some e→e.cells.length=en.sz) ∧
   (en.tot≠0→∃ arr t,E.w.heap[en.rb]?=some (.cells arr t (0,0))∧arr.size=en.base+en.tot * en.sz ∧
    (∀ (i:Nat) (e:PV) (j:Nat) (c:PV),es[i]?=some e→e.cells[j]?=some c→∃ u,arr[en.base+i * en.sz+j]?=some u∧Rep E c u) ∧
    (∀ (i:Nat) (u:Value),arr[i]?=some u→u.oneCell'=true))
 | .map ps=>en.tot≠0∧∃ es clock,E.w.heap[en.rb]?=some (.map es clock)∧es.size=ps.length∧(∀ (i:Nat) (p:PV×PV) (e:MapEntry),ps[i]?=some p→es[i]?=some e→Rep E p.1 e.key∧Rep E p.2 e.val∧e.born < clock) ∧
   (∀ (i j:Nat) (e e':MapEntry),es[i]?=some e→es[j]?=some e'→e.born=e'.born→i=j)
 | .iter s pos=>en.tot≠0∧en.base=0∧E.w.heap[en.rb]?=some (.stringIter s pos)
theorem BRep.mono {E E':Env} (hE:E.le E') {en:Ent} {k:Blk} (hm:en.tot≠0→E'.w.heap[en.rb]?=E.w.heap[en.rb]?) (h:BRep E en k):BRep E' en k:=by
 cases k with
 | cells es =>
  obtain ⟨h1,h2,h3,h4⟩:=h
  refine ⟨h1,h2,h3,fun h0=>?_⟩
  obtain ⟨arr,t,h5,h6,h7,h8⟩:=h4 h0
  refine ⟨arr,t,(hm h0).trans h5,h6,fun i e j c he hj=>?_,h8⟩
  obtain ⟨u,hu,hr⟩:=h7 i e j c he hj
  exact ⟨u,hu,hr.mono hE⟩
 | map ps =>
  obtain ⟨h0,es,clock,h1,h2,h3,h4⟩:=h
  refine ⟨h0,es,clock,(hm h0).trans h1,h2,fun i p e hp he=>?_,h4⟩
  obtain ⟨a,b,c⟩:=h3 i p e hp he
  exact ⟨a.mono hE,b.mono hE,c⟩
 | iter s pos =>
  obtain ⟨h0,h1,h2⟩:=h
  exact ⟨h0,h1,(hm h0).trans h2⟩
structure St where
 t:List PV
 h:List Slot
 n:Nat
structure At (E:Env) (h:List Slot) (b s:Nat) (k:Blk) (en:Ent):Prop where
 slot:h[b]?=some (some (s,k))
 σ:E.σ s=some en
structure Good (E:Env) (h:List Slot) (n:Nat):Prop where
 free:∀ (s:Nat),n≤s→E.σ s=none
 blk:∀ (b s:Nat) (k:Blk),h[b]?=some (some (s,k))→∃ en,At E h b s k en∧BRep E en k∧(en.tot≠0→¬ E.S en.rb)
 inj:∀ (b b' s s':Nat) (k k':Blk) (en en':Ent),At E h b s k en→At E h b' s' k' en'→en.tot≠0→en'.tot≠0→en.rb=en'.rb→b=b'
 stay:∀ r,E.S r→r < E.w.heap.size
structure Ctx where
 w:World
 σ:Nat→Option Ent
 T:Nat→Prop
 S:Nat→Prop
structure Since (C:Ctx) (E:Env):Prop where
 os:E.w.os=C.w.os
 tape:E.w.tape=C.w.tape
 output:E.w.output=C.w.output
 size:C.w.heap.size≤E.w.heap.size
 kept:∀ r,r < C.w.heap.size→¬ C.T r→E.w.heap[r]?=C.w.heap[r]?
 σ:∀ (b:Nat) (en:Ent),C.σ b=some en→E.σ b=some en
 S1:∀ r,C.S r→E.S r
 S2:∀ r,E.S r→C.S r∨C.T r∨C.w.heap.size≤r
structure InvE (C:Ctx) (st:St) (a:Act) (E:Env):Prop where
 good:Good E st.h st.n
 since:Since C E
 touch:∀ (b s:Nat) (k:Blk) (en:Ent),At E st.h b s k en→en.tot≠0→C.T en.rb∨C.w.heap.size≤en.rb
 defers:a.defers=[]
 tsize:a.tmps.size=st.t.length
 tmps:∀ (i:Nat) (p:PV) (u:Value),st.t[i]?=some p→a.tmps[i]?=some u→Rep E p u
end Go.Proofs.Ytemdbhdjchkllaa.VL
