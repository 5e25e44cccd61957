import Derived.Calls
import Derived.Laws.Rows
import Derived.Laws.Append
import Derived.Laws.AppendOwn
section
namespace Go.Proofs.Yticljphbbdnomaa.VL
open Go
set_option linter.unusedVariables false
set_option linter.unusedSimpArgs false
set_option linter.unusedSectionVars false
def arith (op:BinOp) (k:IntKind) (a b:Int):Option Value :=
 match op with
 | .add=>some (.int k (k.wrap (a+b)))
 | .sub=>some (.int k (k.wrap (a - b)))
 | .mul=>some (.int k (k.wrap (a * b)))
 | .quo=>if b=0 then none else some (.int k (k.wrap (a.tdiv b)))
 | .rem=>if b=0 then none else some (.int k (a.tmod b))
 | .and=>some (.int k (k.wrap (BitVec.ofInt k.bits a &&& BitVec.ofInt k.bits b).toNat))
 | .or=>some (.int k (k.wrap (BitVec.ofInt k.bits a ||| BitVec.ofInt k.bits b).toNat))
 | .xor=>some (.int k (k.wrap (BitVec.ofInt k.bits a ^^^ BitVec.ofInt k.bits b).toNat))
 | .andNot=>some (.int k (k.wrap (BitVec.ofInt k.bits a &&& ~~~ BitVec.ofInt k.bits b).toNat))
 | .eql=>some (.bool (a==b))
 | .neq=>some (.bool (a != b))
 | .lss=>some (.bool (a < b))
 | .leq=>some (.bool (a≤b))
 | .gtr=>some (.bool (a > b))
 | .geq=>some (.bool (a ≥ b))
 | _=>none
def shifts (op:BinOp) (k:IntKind) (a b:Int):Option Value :=
 if b < 0 then none else
 match op with
 | .shl=>some (.int k (k.wrap (a * 2 ^ (min b.toNat k.bits))))
 | .shr=>some (.int k (a.fdiv (2 ^ (min b.toNat k.bits))))
 | _=>none
def strOp (op:BinOp) (x y:ByteArray):Option Value :=
 match op with
 | .add=>if x.size+y.size≤4611686018427387904 then some (.string (x++y)) else none
 | .eql=>some (.bool (x.toList==y.toList))
 | .neq=>some (.bool !(x.toList==y.toList))
 | .lss=>some (.bool (Op.bytesLess x.toList y.toList))
 | .leq=>some (.bool (Op.bytesLess x.toList y.toList || x.toList==y.toList))
 | .gtr=>some (.bool !(Op.bytesLess x.toList y.toList || x.toList==y.toList))
 | .geq=>some (.bool !(Op.bytesLess x.toList y.toList))
 | _=>none
def binW (op:BinOp):Value→Value→Option Value
 | .int k a,.int k' b =>
  match op with
  | .shl | .shr=>shifts op k a b
  | op=>if k=k' then arith op k a b else none
 | .string a,.string b=>strOp op a b
 | _,_=>none
def unW (op:UnOp):Value→Option Value
 | .bool b=>match op with | .not=>some (.bool !b) | _=>none
 | .int k n=>match op with
  | .neg=>some (.int k (k.wrap (0 - n)))
  | .xor=>some (.int k (k.wrap (BitVec.ofInt k.bits (if k.signed then -1 else k.max) ^^^ BitVec.ofInt k.bits n).toNat))
  | _=>none
 | _=>none
class Val where
 i:Nat→Int
 nz:∀ n,1000≤n→i n≠0
 b:Nat→Bool
 s:Nat→ByteArray
inductive SX where
 | i (k:IntKind) (n:Nat)
 | b (n:Nat)
 | s (n:Nat)
 | c (v:Value)
 | bin (op:BinOp) (x y:SX)
 | beq (neg:Bool) (x y:SX)
 | and (x y:SX)
 | un (op:UnOp) (x:SX)
 | conv (k:IntKind) (x:SX)
 | len (x:SX)
 deriving Inhabited
inductive Ty where
 | i (k:IntKind)
 | b
 | s
 deriving DecidableEq
def isNz:SX→Bool
 | .c (.int _ v)=>decide (v≠0)
 | .i _ n=>Nat.ble 1000 n
 | _=>false
def isNn:SX→Bool
 | .c (.int _ v)=>decide (0≤v)
 | _=>false
def tyBin (op:BinOp) (y:SX):Option Ty→Option Ty→Option Ty
 | some (.i k),some (.i k')=>match op with
  | .add | .sub | .mul | .and | .or | .xor | .andNot=>if k=k' then some (.i k) else none
  | .quo | .rem=>if k=k'∧isNz y=true then some (.i k) else none
  | .shl | .shr=>if isNn y=true then some (.i k) else none
  | .eql | .neq | .lss | .leq | .gtr | .geq=>if k=k' then some .b else none
 | some .s,some .s=>match op with
  | .eql | .neq | .lss | .leq | .gtr | .geq=>some .b
  | _=>none
 | _,_=>none
def tyUn (op:UnOp):Option Ty→Option Ty
 | some .b=>match op with | .not=>some .b | _=>none
 | some (.i k)=>match op with | .neg | .xor=>some (.i k) | _=>none
 | _=>none
def SX.ty:SX→Option Ty
 | .i k _=>some (.i k)
 | .b _=>some .b
 | .s _=>some .s
 | .c (.int k _)=>some (.i k)
 | .c (.bool _)=>some .b
 | .c (.string _)=>some .s
 | .c _=>none
 | .bin op x y=>tyBin op y x.ty y.ty
 | .beq _ x y=>if x.ty=some .b∧y.ty=some .b then some .b else none
 | .and x y=>if x.ty=some .b∧y.ty=some .b then some .b else none
 | .un op x=>tyUn op x.ty
 | .conv k x=>match x.ty with | some (.i _)=>some (.i k) | _=>none
 | .len x=>match x.ty with | some .s=>some (.i .i64) | _=>none
def SX.eval [Val]:SX→Value
 | .i k n=>.int k (Val.i n)
 | .b n=>.bool (Val.b n)
 | .s n=>.string (Val.s n)
 | .c v=>v
 | .bin op x y=>(binW op x.eval y.eval).getD undef
 | .beq neg x y=>match x.eval,y.eval with | .bool p,.bool q=>.bool (if neg then !(p==q) else p==q) | _,_=>undef
 | .and x y=>match x.eval,y.eval with | .bool p,.bool q=>.bool (p&&q) | _,_=>undef
 | .un op x=>(unW op x.eval).getD undef
 | .conv k x=>match x.eval with | .int _ m=>.int k (k.wrap m) | _=>undef
 | .len x=>match x.eval with | .string m=>.int .i64 m.size | _=>undef
def Ty.has:Ty→Value→Prop
 | .i k,v=>∃ n,v=.int k n
 | .b,v=>∃ b,v=.bool b
 | .s,v=>∃ s,v=.string s
theorem ty_bin {op:BinOp} {y:SX} [Val] {tx ty t:Ty} {u v:Value} (h:tyBin op y (some tx) (some ty)=some t) (hu:tx.has u) (hv:ty.has v) (hy:v=y.eval):∃ w,binW op u v=some w∧t.has w:=by
  cases tx<;>cases ty<;>simp only [tyBin] at h<;>first | (cases h; done) | skip
  · rename_i k k'
    obtain ⟨m,rfl⟩:=hu
    obtain ⟨n,rfl⟩:=hv
    have nz:isNz y=true→n≠0:=by
      intro hz
      unfold isNz at hz
      split at hz
      · simp only [SX.eval] at hy; cases hy; simpa using hz
      · rename_i k2 n2
        simp only [SX.eval] at hy
        cases hy
        exact Val.nz _ (by rw [Nat.ble_eq] at hz; exact hz)
      · cases hz
    have nn:isNn y=true→0≤n:=by
      intro hz
      unfold isNn at hz
      split at hz
      · simp only [SX.eval] at hy; cases hy; simpa using hz
      · cases hz
    cases op<;>simp only at h<;>first
      | (cases h; done)
      | (split at h
         · rename_i hk
           cases h
           first
             | (subst hk; simp only [binW,if_true,arith]; exact ⟨_,rfl,_,rfl⟩)
             | (obtain ⟨rfl,hz⟩:=hk; have:=nz hz; simp only [binW,if_true,arith,if_neg this]; exact ⟨_,rfl,_,rfl⟩)
             | (have:=nn hk; simp only [binW,shifts]; rw [if_neg (by omega)]; exact ⟨_,rfl,_,rfl⟩)
         · cases h)
  · obtain ⟨m,rfl⟩:=hu
    obtain ⟨n,rfl⟩:=hv
    cases op<;>simp only at h<;>first
      | (cases h; done)
      | (cases h; exact ⟨_,rfl,_,rfl⟩)
theorem ty_un {op:UnOp} {tx t:Ty} {u:Value} (h:tyUn op (some tx)=some t) (hu:tx.has u):∃ w,unW op u=some w∧t.has w:=by
 cases tx<;>simp only [tyUn] at h<;>first | (cases h; done) | skip
 ·obtain ⟨m,rfl⟩:=hu
  cases op<;>simp only at h<;>first
   | (cases h; done)
   | (cases h; exact ⟨_,rfl,_,rfl⟩)
 ·obtain ⟨m,rfl⟩:=hu
  cases op<;>simp only at h<;>first
   | (cases h; done)
   | (cases h; exact ⟨_,rfl,_,rfl⟩)
theorem SX.has [Val]:∀ {x:SX} {t:Ty},x.ty=some t→t.has x.eval
 | .i k n,t,h=>by cases h; exact ⟨_,rfl⟩
 | .b n,t,h=>by cases h; exact ⟨_,rfl⟩
 | .s n,t,h=>by cases h; exact ⟨_,rfl⟩
 | .c v,t,h=>by cases v<;>simp only [SX.ty] at h<;>first | (cases h; done) | (cases h; exact ⟨_,rfl⟩)
 | .bin op x y,t,h=>by
  simp only [SX.ty] at h
  cases hx:x.ty with
  | none=>rw [hx] at h; cases h
  | some tx=>cases hy:y.ty with
   | none=>rw [hx,hy] at h; cases tx<;>cases h
   | some ty =>
    rw [hx,hy] at h
    obtain ⟨w,h1,h2⟩:=ty_bin h (SX.has hx) (SX.has hy) rfl
    simp only [SX.eval,h1,Option.getD_some]; exact h2
 | .beq neg x y,t,h=>by
  simp only [SX.ty] at h
  split at h
  ·rename_i hh
   cases h
   obtain ⟨a,ha⟩:=SX.has hh.1
   obtain ⟨b,hb⟩:=SX.has hh.2
   simp only [SX.eval,ha,hb]; exact ⟨_,rfl⟩
  ·cases h
 | .and x y,t,h=>by
  simp only [SX.ty] at h
  split at h
  ·rename_i hh
   cases h
   obtain ⟨a,ha⟩:=SX.has hh.1
   obtain ⟨b,hb⟩:=SX.has hh.2
   simp only [SX.eval,ha,hb]; exact ⟨_,rfl⟩
  ·cases h
 | .un op x,t,h=>by
  simp only [SX.ty] at h
  cases hx:x.ty with
  | none=>rw [hx] at h; cases h
  | some tx =>
   rw [hx] at h
   obtain ⟨w,h1,h2⟩:=ty_un h (SX.has hx)
   simp only [SX.eval,h1,Option.getD_some]; exact h2
 | .conv k x,t,h=>by
  simp only [SX.ty] at h
  split at h
  ·rename_i k' hx
   cases h
   obtain ⟨n,hn⟩:=SX.has hx
   simp only [SX.eval,hn]; exact ⟨_,rfl⟩
  ·cases h
 | .len x,t,h=>by
  simp only [SX.ty] at h
  split at h
  ·rename_i hx
   cases h
   obtain ⟨n,hn⟩:=SX.has hx
   simp only [SX.eval,hn]; exact ⟨_,rfl⟩
  ·cases h
theorem SX.one [Val] {x:SX} (h:x.ty.isSome=true):x.eval.oneCell'=true:=by
 obtain ⟨t,ht⟩:=Option.isSome_iff_exists.1 h
 have:=SX.has ht
 cases t<;>obtain ⟨n,hn⟩:=this<;>rw [hn]<;>rfl
inductive PV where
 | v (x:Value)
 | agg (cs:List PV)
 | tup (cs:List PV)
 | sl (clip:Bool) (es:List PV)
 | own (b s sz off len:Nat) (cap:Option Nat)
 | optr (b s i off:Nat)
 | sptr (cs:List PV)
 | clo (f:Nat) (fs cs:List PV)
 | mp (b s:Nat)
 | sy (x:SX)
 | dead
 deriving Inhabited
def PV.cells:PV→List PV
 | .agg cs=>cs
 | x=>[x]
structure Ent where
 rb:Nat
 base:Nat
 sz:Nat
 tot:Nat
 deriving Inhabited
inductive Blk where
 | cells (es:List PV)
 | map (es:List (PV×PV))
 | iter (s:ByteArray) (pos:Nat)
 deriving Inhabited
abbrev Slot:=Option (Nat×Blk)
structure Env where
 w:World
 σ:Nat→Option Ent
 S:Nat→Prop
variable [Val]
inductive Rep (E:Env):PV→Value→Prop
 | v (x:Value):Rep E (.v x) x
 | agg (cs:List PV) (vs:Array Value) (hl:vs.size=cs.length) (ho:∀ (i:Nat) (u:Value),vs[i]?=some u→u.oneCell'=true) (h:∀ (i:Nat) (c:PV) (u:Value),cs[i]?=some c→vs[i]?=some u→Rep E c u):Rep E (.agg cs) (.agg vs)
 | tup (cs:List PV) (vs:Array Value) (hl:vs.size=cs.length) (h:∀ (i:Nat) (c:PV) (u:Value),cs[i]?=some c→vs[i]?=some u→Rep E c u):Rep E (.tup cs) (.tuple vs)
 | emp (c:Bool) (a:Option Addr) (cap:Nat) (hc:c=true→cap=0) (hn:a=none→cap=0):Rep E (.sl c []) (.slice a 0 cap)
 | sl (c:Bool) (es:List PV) (rb off cap sz:Nat) (U:Nat→Nat→Value) (hne:es≠[]) (hS:E.S rb) (hc:c=true→cap=es.length) (hcap:es.length≤cap) (hsz0:0 < sz)
   (hsz:∀ (i:Nat) (e:PV),es[i]?=some e→e.cells.length=sz)
   (hm:∀ (i:Nat) (e:PV) (j:Nat) (c:PV),es[i]?=some e→e.cells[j]?=some c→E.w.cell? ⟨rb,off+i * sz+j,none⟩=some (U i j))
   (ho:∀ (i j:Nat),(U i j).oneCell'=true)
   (h:∀ (i:Nat) (e:PV) (j:Nat) (c:PV),es[i]?=some e→e.cells[j]?=some c→Rep E c (U i j)):Rep E (.sl c es) (.slice (some ⟨rb,off,none⟩) es.length cap)
 | own (b s off len:Nat) (cap:Option Nat) (en:Ent) (c:Nat) (a:Option Addr) (hb:E.σ s=some en) (ha:c≠0→a=some ⟨en.rb,en.base+off * en.sz,none⟩) (hn:a=none→c=0) (hlen:len≤c)
   (hc:∀ k,cap=some k→c=k) (htot:off+c≤en.tot) (hcap:cap=none→off+c=en.tot) :
   Rep E (.own b s en.sz off len cap) (.slice a len c)
 | optr (b s i off:Nat) (en:Ent) (hb:E.σ s=some en):Rep E (.optr b s i off) (.pointer (some ⟨en.rb,en.base+i * en.sz+off,none⟩))
 | sptr (cs:List PV) (rb off:Nat) (U:Nat→Value) (hS:E.S rb) (hm:∀ (j:Nat) (c:PV),cs[j]?=some c→E.w.cell? ⟨rb,off+j,none⟩=some (U j)) (ho:∀ (j:Nat),(U j).oneCell'=true) (h:∀ (j:Nat) (c:PV),cs[j]?=some c→Rep E c (U j)) :
   Rep E (.sptr cs) (.pointer (some ⟨rb,off,none⟩))
 | clo (f:Nat) (fs cs:List PV) (us vs:Array Value) (hk:us.size=fs.length) (g:∀ (i:Nat) (c:PV) (u:Value),fs[i]?=some c→us[i]?=some u→Rep E c u)
   (hl:vs.size=cs.length) (h:∀ (i:Nat) (c:PV) (u:Value),cs[i]?=some c→vs[i]?=some u→Rep E c u):Rep E (.clo f fs cs) (.func (.func f) us vs)
 | mp (b s:Nat) (en:Ent) (hb:E.σ s=some en):Rep E (.mp b s) (.map (some en.rb))
 | sy (x:SX):Rep E (.sy x) x.eval
 | dead (u:Value):Rep E .dead u
structure Env.le (E E':Env):Prop where
 S:∀ r,E.S r→E'.S r
 mem:∀ r,E.S r→E'.w.heap[r]?=E.w.heap[r]?
 σ:∀ (b:Nat) (en:Ent),E.σ b=some en→E'.σ b=some en
theorem Env.le.refl (E:Env):E.le E:=⟨fun _ h=>h,fun _ _=>rfl,fun _ _ h=>h⟩
theorem Env.le.trans {A B C:Env} (h:A.le B) (k:B.le C):A.le C :=
 ⟨fun r hr=>k.S r (h.S r hr),fun r hr=>(k.mem r (h.S r hr)).trans (h.mem r hr),fun b en hb=>k.σ b en (h.σ b en hb)⟩
theorem Env.le.cell {E E':Env} (h:E.le E') {r o:Nat} (hr:E.S r):E'.w.cell? ⟨r,o,none⟩=E.w.cell? ⟨r,o,none⟩:=by
 simp [World.cell?,h.mem r hr]
theorem Rep.mono {E E':Env} (hE:E.le E') {p:PV} {u:Value} (h:Rep E p u):Rep E' p u:=by
 induction h with
 | v x=>exact .v x
 | agg cs vs hl ho _ ih=>exact .agg cs vs hl ho ih
 | tup cs vs hl _ ih=>exact .tup cs vs hl ih
 | emp c a cap hc hn=>exact .emp c a cap hc hn
 | sl c es rb off cap sz U hne hS hc hcap hsz0 hsz hm ho _ ih =>
  exact .sl c es rb off cap sz U hne (hE.S _ hS) hc hcap hsz0 hsz (fun i e j c he hj=>by rw [hE.cell hS]; exact hm i e j c he hj) ho ih
 | own b s off len cap en c a hb ha hn hlen hc htot hcap=>exact .own b s off len cap en c a (hE.σ _ _ hb) ha hn hlen hc htot hcap
 | optr b s i off en hb=>exact .optr b s i off en (hE.σ _ _ hb)
 | sptr cs rb off U hS hm ho _ ih=>exact .sptr cs rb off U (hE.S _ hS) (fun j c hj=>by rw [hE.cell hS]; exact hm j c hj) ho ih
 | clo f fs cs us vs hk _ hl _ ih1 ih2=>exact .clo f fs cs us vs hk ih1 hl ih2
 | mp b s en hb=>exact .mp b s en (hE.σ _ _ hb)
 | sy x=>exact .sy x
 | dead u=>exact .dead u
def BRep (E:Env) (en:Ent):Blk→Prop
 | .cells es=>es.length≤en.tot∧0 < en.sz∧(∀ (i:Nat) (e:PV),es[i]?=some e→e.cells.length=en.sz) ∧
   (en.tot≠0→∃ arr t,E.w.heap[en.rb]?=some (.cells arr t (0,0))∧arr.size=en.base+en.tot * en.sz ∧
    (∀ (i:Nat) (e:PV) (j:Nat) (c:PV),es[i]?=some e→e.cells[j]?=some c→∃ u,arr[en.base+i * en.sz+j]?=some u∧Rep E c u) ∧
    (∀ (i:Nat) (u:Value),arr[i]?=some u→u.oneCell'=true))
 | .map ps=>en.tot≠0∧∃ es clock,E.w.heap[en.rb]?=some (.map es clock)∧es.size=ps.length∧(∀ (i:Nat) (p:PV×PV) (e:MapEntry),ps[i]?=some p→es[i]?=some e→Rep E p.1 e.key∧Rep E p.2 e.val∧e.born < clock) ∧
   (∀ (i j:Nat) (e e':MapEntry),es[i]?=some e→es[j]?=some e'→e.born=e'.born→i=j)
 | .iter s pos=>en.tot≠0∧en.base=0∧E.w.heap[en.rb]?=some (.stringIter s pos)
theorem BRep.mono {E E':Env} (hE:E.le E') {en:Ent} {k:Blk} (hm:en.tot≠0→E'.w.heap[en.rb]?=E.w.heap[en.rb]?) (h:BRep E en k):BRep E' en k:=by
 cases k with
 | cells es =>
  obtain ⟨h1,h2,h3,h4⟩:=h
  refine ⟨h1,h2,h3,fun h0=>?_⟩
  obtain ⟨arr,t,h5,h6,h7,h8⟩:=h4 h0
  refine ⟨arr,t,(hm h0).trans h5,h6,fun i e j c he hj=>?_,h8⟩
  obtain ⟨u,hu,hr⟩:=h7 i e j c he hj
  exact ⟨u,hu,hr.mono hE⟩
 | map ps =>
  obtain ⟨h0,es,clock,h1,h2,h3,h4⟩:=h
  refine ⟨h0,es,clock,(hm h0).trans h1,h2,fun i p e hp he=>?_,h4⟩
  obtain ⟨a,b,c⟩:=h3 i p e hp he
  exact ⟨a.mono hE,b.mono hE,c⟩
 | iter s pos =>
  obtain ⟨h0,h1,h2⟩:=h
  exact ⟨h0,h1,(hm h0).trans h2⟩
structure St where
 t:List PV
 h:List Slot
 n:Nat
structure At (E:Env) (h:List Slot) (b s:Nat) (k:Blk) (en:Ent):Prop where
 slot:h[b]?=some (some (s,k))
 σ:E.σ s=some en
structure Good (E:Env) (h:List Slot) (n:Nat):Prop where
 free:∀ (s:Nat),n≤s→E.σ s=none
 blk:∀ (b s:Nat) (k:Blk),h[b]?=some (some (s,k))→∃ en,At E h b s k en∧BRep E en k∧(en.tot≠0→¬ E.S en.rb)
 inj:∀ (b b' s s':Nat) (k k':Blk) (en en':Ent),At E h b s k en→At E h b' s' k' en'→en.tot≠0→en'.tot≠0→en.rb=en'.rb→b=b'
 stay:∀ r,E.S r→r < E.w.heap.size
structure Ctx where
 w:World
 σ:Nat→Option Ent
 T:Nat→Prop
 S:Nat→Prop
structure Since (C:Ctx) (E:Env):Prop where
 os:E.w.os=C.w.os
 tape:E.w.tape=C.w.tape
 output:E.w.output=C.w.output
 size:C.w.heap.size≤E.w.heap.size
 kept:∀ r,r < C.w.heap.size→¬ C.T r→E.w.heap[r]?=C.w.heap[r]?
 σ:∀ (b:Nat) (en:Ent),C.σ b=some en→E.σ b=some en
 S1:∀ r,C.S r→E.S r
 S2:∀ r,E.S r→C.S r∨C.T r∨C.w.heap.size≤r
 drawn:C.w.drawn≤E.w.drawn
structure InvE (C:Ctx) (st:St) (a:Act) (E:Env):Prop where
 good:Good E st.h st.n
 since:Since C E
 touch:∀ (b s:Nat) (k:Blk) (en:Ent),At E st.h b s k en→en.tot≠0→C.T en.rb∨C.w.heap.size≤en.rb
 defers:a.defers=[]
 tsize:a.tmps.size=st.t.length
 tmps:∀ (i:Nat) (p:PV) (u:Value),st.t[i]?=some p→a.tmps[i]?=some u→Rep E p u
end Go.Proofs.Yticljphbbdnomaa.VL
end
section
namespace Go.Proofs.Yticljphbbdnomaa.VL
open Go
set_option linter.unusedVariables false
set_option linter.unusedSimpArgs false
set_option linter.unusedSectionVars false
variable [Val]
variable {C:Ctx} {st:St} {a:Act} {E:Env}
theorem InvE.put (I:InvE C st a E) {p:PV} {u:Value} (h:Rep E p u) (d:Nat):InvE C ⟨st.t.set d p,st.h,st.n⟩ (a.put (some d) u) E where
 good:=I.good
 since:=I.since
 touch:=I.touch
 defers:=I.defers
 tsize:=by simp [Act.put,I.tsize]
 tmps:=by
  intro i p' u' hp hu
  simp only [Act.put,Array.getElem?_setIfInBounds] at hu
  simp only [List.getElem?_set] at hp
  by_cases hd:d=i
  ·subst hd
   simp only [if_true] at hp hu
   split at hp
   ·split at hu
    ·cases hp; cases hu; exact h
    ·cases hu
   ·cases hp
  ·simp only [hd,if_false] at hp hu
   exact I.tmps i p' u' hp hu
theorem At.lt (G:Good E st.h st.n) {b s:Nat} {k:Blk} {en:Ent} (A:At E st.h b s k en) (h0:en.tot≠0):en.rb < E.w.heap.size:=by
 obtain ⟨en',h1,h2,h3⟩:=G.blk b s k A.slot
 have:en'=en:=by have:=h1.σ; rw [A.σ] at this; cases this; rfl
 subst this
 cases k with
 | cells es=>obtain ⟨_,_,_,h⟩:=h2; obtain ⟨arr,t,h,_⟩:=h h0; exact (Array.getElem?_eq_some_iff.1 h).1
 | map ps=>obtain ⟨_,arr,t,h,_⟩:=h2; exact (Array.getElem?_eq_some_iff.1 h).1
 | iter t pos=>obtain ⟨_,_,h⟩:=h2; exact (Array.getElem?_eq_some_iff.1 h).1
theorem At.brep (G:Good E st.h st.n) {b s:Nat} {k:Blk} {en:Ent} (A:At E st.h b s k en):BRep E en k∧(en.tot≠0→¬ E.S en.rb):=by
 obtain ⟨en',h1,h2,h3⟩:=G.blk b s k A.slot
 have:en'=en:=by have:=h1.σ; rw [A.σ] at this; cases this; rfl
 subst this
 exact ⟨h2,h3⟩
theorem InvE.step (I:InvE C st a E) {E':Env} {h':List Slot} {n':Nat} (hle:E.le E') (hos:E'.w.os=E.w.os) (htape:E'.w.tape=E.w.tape) (hout:E'.w.output=E.w.output)
    (hsize:E.w.heap.size≤E'.w.heap.size)
    (hS:∀ r,E'.S r→E.S r∨(∃ (b s:Nat) (k:Blk) (en:Ent),At E st.h b s k en∧en.tot≠0∧en.rb=r)∨E.w.heap.size≤r)
    (hkept:∀ r,r < E.w.heap.size→(∀ (b s:Nat) (k:Blk) (en:Ent),At E st.h b s k en→en.tot≠0→en.rb≠r)→E'.w.heap[r]?=E.w.heap[r]?)
    (good:Good E' h' n')
    (touch:∀ (b s:Nat) (k:Blk) (en:Ent),At E' h' b s k en→en.tot≠0→(∃ (b0 s0:Nat) (k0:Blk) (en0:Ent),At E st.h b0 s0 k0 en0∧en0.tot≠0∧en0.rb=en.rb)∨E.w.heap.size≤en.rb) (hdr:E.w.drawn≤E'.w.drawn:=by first | exact Nat.le_refl _ | exact Nat.le_succ _ | (simp; done)) :
    InvE C ⟨st.t,h',n'⟩ a E' where
  good:=good
  since:={
    os:=hos.trans I.since.os
    tape:=htape.trans I.since.tape
    output:=hout.trans I.since.output
    size:=Nat.le_trans I.since.size hsize
    kept:=by
      intro r hr hT
      rw [hkept r (Nat.lt_of_lt_of_le hr I.since.size) ?_]
      · exact I.since.kept r hr hT
      · intro b s k en hb h0 he
        rcases I.touch b s k en hb h0 with h | h
        · exact hT (he ▸ h)
        · omega
    σ:=fun b en hb=>hle.σ b en (I.since.σ b en hb)
    S1:=fun r hr=>hle.S r (I.since.S1 r hr)
    S2:=by
      intro r hr
      rcases hS r hr with h | ⟨b,s,k,en,hb,h0,rfl⟩ | h
      · exact I.since.S2 r h
      · rcases I.touch b s k en hb h0 with h | h
        · exact .inr (.inl h)
        · exact .inr (.inr h)
      · exact .inr (.inr (Nat.le_trans I.since.size h))
    drawn:=Nat.le_trans I.since.drawn hdr }
  touch:=by
    intro b s k en hb h0
    rcases touch b s k en hb h0 with ⟨b0,s0,k0,en0,h0',h1,h2⟩ | h
    · rw [← h2]; exact I.touch b0 s0 k0 en0 h0' h1
    · exact .inr (Nat.le_trans I.since.size h)
  defers:=I.defers
  tsize:=I.tsize
  tmps:=fun i p u hp hu=>(I.tmps i p u hp hu).mono hle
theorem le_drew (E:Env):E.le ⟨E.w.drew,E.σ,E.S⟩:=⟨fun _ h=>h,fun _ _=>rfl,fun _ _ h=>h⟩
theorem InvE.drew (I:InvE C st a E):InvE C st a ⟨E.w.drew,E.σ,E.S⟩:=by
 refine I.step (E':=⟨E.w.drew,E.σ,E.S⟩) (h':=st.h) (n':=st.n) (le_drew E) rfl rfl rfl (Nat.le_refl _) (fun r h=>.inl h) (fun _ _ _=>rfl) ⟨I.good.free,?_,?_,I.good.stay⟩ ?_
 ·intro b s k hb
  obtain ⟨en,h1,h2,h3⟩:=I.good.blk b s k hb
  exact ⟨en,⟨h1.slot,h1.σ⟩,h2.mono (le_drew E) (fun _=>rfl),h3⟩
 ·intro b b' s s' k k' en en' A A' h0 h0' he
  exact I.good.inj b b' s s' k k' en en' ⟨A.slot,A.σ⟩ ⟨A'.slot,A'.σ⟩ h0 h0' he
 ·intro b s k en A h0
  exact .inl ⟨b,s,k,en,⟨A.slot,A.σ⟩,h0,rfl⟩
def giveAt (σ:Nat→Option Ent) (n:Nat) (en:Ent):Nat→Option Ent:=fun b=>if b=n then some en else σ b
theorem le_give (E:Env) {n:Nat} (hn:E.σ n=none) (en:Ent) (w':World) (hw:∀ r,E.S r→w'.heap[r]?=E.w.heap[r]?):E.le ⟨w',giveAt E.σ n en,E.S⟩ :=
 ⟨fun _ h=>h,hw,fun b e hb=>by
  have:b≠n:=fun h=>by rw [h,hn] at hb; cases hb
  simp [giveAt,this,hb]⟩
theorem InvE.give (I:InvE C st a E) {b:Nat} (hb:b < st.h.length) {k:Blk} {en:Ent} {w':World}
  (hos:w'.os=E.w.os) (htape:w'.tape=E.w.tape) (hout:w'.output=E.w.output) (hsize:E.w.heap.size≤w'.heap.size)
  (hw:∀ r,r < E.w.heap.size→(∃ (s:Nat) (k0:Blk) (en0:Ent),At E st.h b s k0 en0∧en0.tot≠0∧en0.rb=r)∨w'.heap[r]?=E.w.heap[r]?)
  (hen:en.tot≠0→(E.w.heap.size≤en.rb∧en.rb < w'.heap.size)∨∃ (s:Nat) (k0:Blk) (en0:Ent),At E st.h b s k0 en0∧en0.tot≠0∧en0.rb=en.rb)
  (hB:E.le ⟨w',giveAt E.σ st.n en,E.S⟩→BRep ⟨w',giveAt E.σ st.n en,E.S⟩ en k) (hdr:E.w.drawn≤w'.drawn:=by first | exact Nat.le_refl _ | exact Nat.le_succ _ | (simp; done)) :
  InvE C ⟨st.t,st.h.set b (some (st.n,k)),st.n+1⟩ a ⟨w',giveAt E.σ st.n en,E.S⟩:=by
 have hσ:E.σ st.n=none:=I.good.free st.n (Nat.le_refl _)
 have keep:∀ r,r < E.w.heap.size→(∀ (s:Nat) (k0:Blk) (en0:Ent),At E st.h b s k0 en0→en0.tot≠0→en0.rb≠r)→w'.heap[r]?=E.w.heap[r]?:=by
  intro r hr hne
  rcases hw r hr with ⟨s,k0,en0,A,h0,he⟩ | h
  ·exact absurd he (hne s k0 en0 A h0)
  ·exact h
 have hle:=le_give E hσ en w' (fun r hr=>keep r (I.good.stay r hr) fun s k0 en0 A h0 he=>(A.brep I.good).2 h0 (he ▸ hr))
 have old:∀ (b' s':Nat) (k':Blk) (en':Ent),b≠b'→At ⟨w',giveAt E.σ st.n en,E.S⟩ (st.h.set b (some (st.n,k))) b' s' k' en'→At E st.h b' s' k' en':=by
  intro b' s' k' en' hne A
  have h1:=A.slot
  rw [List.getElem?_set_ne hne] at h1
  obtain ⟨en0,h2,_⟩:=I.good.blk b' s' k' h1
  have h3:=hle.σ _ _ h2.σ
  have h4:=A.σ
  rw [h3] at h4; cases h4
  exact h2
 have new:∀ (s':Nat) (k':Blk) (en':Ent),At ⟨w',giveAt E.σ st.n en,E.S⟩ (st.h.set b (some (st.n,k))) b s' k' en'→s'=st.n∧k'=k∧en'=en:=by
  intro s' k' en' A
  have h1:=A.slot
  simp [hb] at h1
  obtain ⟨rfl,rfl⟩:=h1
  have:=A.σ
  simp [giveAt] at this
  exact ⟨rfl,rfl,this.symm⟩
 have hne:∀ (b' s':Nat) (k':Blk) (en':Ent),b≠b'→At E st.h b' s' k' en'→en'.tot≠0→en.tot≠0→en.rb≠en'.rb:=by
  intro b' s' k' en' hbb A h0 h1 he
  rcases hen h1 with h | ⟨s,k0,en0,A0,h2,h3⟩
  ·have:=A.lt I.good h0; omega
  ·exact hbb (I.good.inj b b' s s' k0 k' en0 en' A0 A h2 h0 (h3.trans he))
 refine I.step hle hos htape hout hsize (fun r h=>.inl h) (fun r hr hn=>keep r hr fun s k0 en0 A h0=>hn b s k0 en0 A h0) ⟨?_,?_,?_,?_⟩ ?_ hdr
 ·intro s hs
  have:s≠st.n:=by omega
  simp [giveAt,this,I.good.free s (by omega)]
 ·intro b' s' k' hb'
  by_cases hbb:b=b'
  ·subst hbb
   simp [hb] at hb'
   obtain ⟨rfl,rfl⟩:=hb'
   refine ⟨en,⟨by simp [hb],by simp [giveAt]⟩,hB hle,?_⟩
   intro h0 hS
   rcases hen h0 with h | ⟨s,k0,en0,A0,h2,h3⟩
   ·have:=I.good.stay _ hS; omega
   ·exact (A0.brep I.good).2 h2 (h3 ▸ hS)
  ·have h1:=hb'
   rw [List.getElem?_set_ne hbb] at h1
   obtain ⟨en',A,h2,h3⟩:=I.good.blk b' s' k' h1
   refine ⟨en',⟨hb',hle.σ _ _ A.σ⟩,h2.mono hle (fun h0=>keep _ (A.lt I.good h0) fun s k0 en0 A0 h1 he=>hbb (I.good.inj b b' s s' k0 k' en0 en' A0 A h1 h0 he)),h3⟩
 ·intro b1 b2 s1 s2 k1 k2 en1 en2 A1 A2 h1 h2 he
  by_cases e1:b=b1<;>by_cases e2:b=b2
  ·exact e1.symm.trans e2
  ·subst e1
   obtain ⟨rfl,rfl,rfl⟩:=new _ _ _ A1
   exact absurd he (hne b2 s2 k2 en2 e2 (old _ _ _ _ e2 A2) h2 h1)
  ·subst e2
   obtain ⟨rfl,rfl,rfl⟩:=new _ _ _ A2
   exact absurd he.symm (hne b1 s1 k1 en1 e1 (old _ _ _ _ e1 A1) h1 h2)
  ·exact I.good.inj b1 b2 s1 s2 k1 k2 en1 en2 (old _ _ _ _ e1 A1) (old _ _ _ _ e2 A2) h1 h2 he
 ·intro r hr
  exact Nat.lt_of_lt_of_le (I.good.stay r hr) hsize
 ·intro b' s' k' en' A h0
  by_cases hbb:b=b'
  ·subst hbb
   obtain ⟨rfl,rfl,rfl⟩:=new _ _ _ A
   rcases hen h0 with h | ⟨s,k0,en0,A0,h2,h3⟩
   ·exact .inr h.1
   ·exact .inl ⟨b,s,k0,en0,A0,h2,h3⟩
  ·exact .inl ⟨b',s',k',en',old _ _ _ _ hbb A,h0,rfl⟩
theorem InvE.newBlk (I:InvE C st a E) {b:Nat} (hb:b < st.h.length) {arr:Array Value} {t:TypeId} {es:List PV} {sz tot:Nat} (hsz0:0 < sz)
  (ha:arr.size=tot * sz) (hes:es.length≤tot) (hsz:∀ (i:Nat) (e:PV),es[i]?=some e→e.cells.length=sz)
  (hr:∀ (i:Nat) (e:PV) (j:Nat) (c:PV),es[i]?=some e→e.cells[j]?=some c→∃ u,arr[i * sz+j]?=some u∧Rep E c u)
  (ho:∀ (i:Nat) (u:Value),arr[i]?=some u→u.oneCell'=true) :
  InvE C ⟨st.t,st.h.set b (some (st.n,.cells es)),st.n+1⟩ a ⟨E.w.alloc (.cells arr t),giveAt E.σ st.n ⟨E.w.heap.size,0,sz,tot⟩,E.S⟩:=by
 refine I.give hb rfl rfl rfl (by simp) (fun r hr=>.inr (heap_alloc_old _ _ _ hr)) (fun _=>.inl ⟨Nat.le_refl _,by simp⟩) ?_
 intro hle
 refine ⟨hes,hsz0,hsz,fun _=>⟨arr,t,heap_alloc_new _ _,by simpa using ha,?_,ho⟩⟩
 intro i e j c he hj
 obtain ⟨u,h1,h2⟩:=hr i e j c he hj
 exact ⟨u,by simpa using h1,h2.mono hle⟩
theorem heap_setRow_same (w:World) (g:Nat) (cs:Array Value) {arr:Array Value} {t:TypeId} {f:Nat×Nat} (h:w.heap[g]?=some (.cells arr t f)):(w.setRow g cs).heap[g]?=some (.cells cs t f):=by
 simp [World.setRow,Array.getElem?_modify,h]
theorem heap_setRow_ne (w:World) (g r:Nat) (cs:Array Value) (h:r≠g):(w.setRow g cs).heap[r]?=w.heap[r]?:=by
 simp only [World.setRow,Array.getElem?_modify]
 rw [if_neg (by omega)]
theorem InvE.upd (I:InvE C st a E) {b s:Nat} {k k':Blk} {en:Ent} (A:At E st.h b s k en) {w':World}
  (hos:w'.os=E.w.os) (htape:w'.tape=E.w.tape) (hout:w'.output=E.w.output) (hsize:w'.heap.size=E.w.heap.size)
  (hw:∀ r,(en.tot≠0∧r=en.rb)∨w'.heap[r]?=E.w.heap[r]?)
  (hB:E.le ⟨w',E.σ,E.S⟩→BRep ⟨w',E.σ,E.S⟩ en k') (hdr:E.w.drawn≤w'.drawn:=by first | exact Nat.le_refl _ | exact Nat.le_succ _ | (simp; done)) :
  InvE C ⟨st.t,st.h.set b (some (s,k')),st.n⟩ a ⟨w',E.σ,E.S⟩:=by
 have hlt:b < st.h.length:=(List.getElem?_eq_some_iff.1 A.slot).1
 have keep:∀ r,(en.tot≠0→r≠en.rb)→w'.heap[r]?=E.w.heap[r]?:=fun r h=>(hw r).resolve_left fun ⟨h0,he⟩=>h h0 he
 have hle:E.le ⟨w',E.σ,E.S⟩:=⟨fun _ h=>h,fun r hr=>keep r fun h0 he=>(A.brep I.good).2 h0 (he ▸ hr),fun _ _ h=>h⟩
 have back:∀ (b' s':Nat) (k2:Blk) (en':Ent),At ⟨w',E.σ,E.S⟩ (st.h.set b (some (s,k'))) b' s' k2 en'→∃ k0,At E st.h b' s' k0 en':=by
  intro b' s' k2 en' A'
  by_cases hbb:b=b'
  ·subst hbb
   have h1:=A'.slot
   simp [hlt] at h1
   obtain ⟨rfl,rfl⟩:=h1
   exact ⟨k,A.slot,A'.σ⟩
  ·have h1:=A'.slot
   rw [List.getElem?_set_ne hbb] at h1
   exact ⟨k2,h1,A'.σ⟩
 refine I.step hle hos htape hout (Nat.le_of_eq hsize.symm) (fun r h=>.inl h) (fun r hr hne=>keep r fun h0 he=>hne b s k en A h0 he.symm) ⟨I.good.free,?_,?_,?_⟩ ?_ hdr
 ·intro b' s' k2 hb'
  by_cases hbb:b=b'
  ·subst hbb
   simp [hlt] at hb'
   obtain ⟨rfl,rfl⟩:=hb'
   exact ⟨en,⟨by simp [hlt],A.σ⟩,hB hle,(A.brep I.good).2⟩
  ·have h1:=hb'
   rw [List.getElem?_set_ne hbb] at h1
   obtain ⟨en',A',h2,h3⟩:=I.good.blk b' s' k2 h1
   refine ⟨en',⟨hb',A'.σ⟩,h2.mono hle (fun h0=>keep _ fun h1 he=>hbb (I.good.inj b b' s s' k k2 en en' A A' h1 h0 he.symm)),h3⟩
 ·intro b1 b2 s1 s2 k1 k2 en1 en2 A1 A2 h1 h2 he
  obtain ⟨k1',A1⟩:=back _ _ _ _ A1
  obtain ⟨k2',A2⟩:=back _ _ _ _ A2
  exact I.good.inj b1 b2 s1 s2 k1' k2' en1 en2 A1 A2 h1 h2 he
 ·intro r hr
  rw [hsize]; exact I.good.stay r hr
 ·intro b' s' k2 en' A' h0
  obtain ⟨k0,A0⟩:=back _ _ _ _ A'
  exact .inl ⟨b',s',k0,en',A0,h0,rfl⟩
theorem InvE.kill (I:InvE C st a E) (b:Nat):InvE C ⟨st.t,st.h.set b none,st.n⟩ a E:=by
 have back:∀ (b' s':Nat) (k2:Blk),(st.h.set b none)[b']?=some (some (s',k2))→st.h[b']?=some (some (s',k2)):=by
  intro b' s' k2 h
  by_cases hbb:b=b'
  ·subst hbb
   rw [List.getElem?_set] at h
   simp only [if_true] at h
   split at h<;>simp at h
  ·rwa [List.getElem?_set_ne hbb] at h
 have backA:∀ (b' s':Nat) (k2:Blk) (en:Ent),At E (st.h.set b none) b' s' k2 en→At E st.h b' s' k2 en:=fun b' s' k2 en A=>⟨back _ _ _ A.slot,A.σ⟩
 refine I.step (Env.le.refl E) rfl rfl rfl (Nat.le_refl _) (fun r h=>.inl h) (fun r _ _=>rfl) ⟨I.good.free,?_,?_,I.good.stay⟩ ?_
 ·intro b' s' k' hb'
  obtain ⟨en,A,h⟩:=I.good.blk b' s' k' (back _ _ _ hb')
  exact ⟨en,⟨hb',A.σ⟩,h⟩
 ·intro b1 b2 s1 s2 k1 k2 en1 en2 A1 A2 h1 h2 he
  exact I.good.inj b1 b2 s1 s2 k1 k2 en1 en2 (backA _ _ _ _ A1) (backA _ _ _ _ A2) h1 h2 he
 ·intro b' s' k' en' A h0
  exact .inl ⟨b',s',k',en',backA _ _ _ _ A,h0,rfl⟩
end Go.Proofs.Yticljphbbdnomaa.VL
end
