import Derived.Test.YticljphbbdnomaaW1Xc
namespace Go.Proofs.Yticljphbbdnomaa.VL
open Go
set_option linter.unusedVariables false
set_option linter.unusedSimpArgs false
set_option linter.unusedSectionVars false
variable [Val]
variable {R:Type}
abbrev KX (R:Type):=XV→Heap→Nat→Option R
abbrev QP:=PV→List Slot→Nat→Prop
structure OkK (w:Bool) (M:Nat) (K:KX R) (r:R) (Q:QP):Prop where
 ok:∀ {v:XV} {h:Heap} {n:Nat},K v h n=some r→Q v.toPV (toH M h) n
 le:w=true→∀ {p:PV} {h:List Slot} {n:Nat} {p':PV} {h':List Slot} {n':Nat},PLe p h n p' h' n'→Q p' h' n'→Q p h n
theorem OkK.of {w:Bool} {M:Nat} {K:KX R} {r:R} {Q:QP} (O:OkK w M K r Q) {v:XV} {h:Heap} {n:Nat} (hk:K v h n=some r) {p:PV} {h':List Slot} {n':Nat}
  (he:w=false→p=v.toPV∧h'=toH M h∧n'=n) (hl:PLe p h' n' v.toPV (toH M h) n):Q p h' n':=by
 cases w with
 | true=>exact O.le rfl hl (O.ok hk)
 | false=>obtain ⟨rfl,rfl,rfl⟩:=he rfl; exact O.ok hk
def Snd (w:Bool) (M:Nat) (f:KX R→Option R) (G:QP→Prop):Prop:=∀ (K:KX R) (r:R) (Q:QP),f K=some r→OkK w M K r Q→G Q
theorem cond_some {c:Bool} {a b:Option R} {r:R} (h:cond c a b=some r):(c=true∧a=some r)∨(c=false∧b=some r):=by cases c<;>simp_all
theorem guard_some {c:Bool} {a:Option R} {r:R} (h:cond c a none=some r):c=true∧a=some r:=by cases c<;>simp_all
def xPick (c a b:XV) (h:Heap) (n:Nat) (K:KX R):Option R:=match c with
 | .b t=>(match a,b with
  | .b x,.b y=>K (.b (cond t x y)) h n
  | .i k x,.i k' y=>(match ikB k k' with | true=>K (.i k (cond t x y)) h n | false=>none)
  | a,b=>cond t (K a h n) (K b h n))
 | _=>none
def zeroV:Value→Value→Bool
 | .int k (.ofNat a),.int k' (.ofNat b)=>ikB k k'&&Nat.beq a b
 | .bool a,.bool b=>cond a b (cond b false true)
 | _,_=>false
theorem zeroV_eq {u v:Value} (h:zeroV u v=true):u=v:=by
 unfold zeroV at h
 split at h
 ·rw [Bool.and_eq_true] at h
  rw [ikB_eq h.1,Nat.eq_of_beq_eq_true h.2]
 ·rename_i a b
  cases a<;>cases b<;>first | rfl | cases h
 ·cases h
def sameCells (v:Value):List PV→Bool
 | []=>true
 | .v u::r=>zeroV u v&&sameCells v r
 | _=>false
def rowOf (a:TT) (z:PV):XV:=match a,z with
 | .ar (.i k),.agg cs=>(match sameCells (.int k 0) cs with | true=>.arr (.i k) (List.replicate cs.length 0) | false=>ofPV z)
 | .ar .b,.agg cs=>(match sameCells (.bool false) cs with | true=>.arr .b (List.replicate cs.length false) | false=>ofPV z)
 | _,z=>ofPV z
theorem sameCells_spec {v:Value}:∀ {cs:List PV},sameCells v cs=true→cs=List.replicate cs.length (.v v)
 | [],_=>rfl
 | p::r,h=>by
  cases p<;>simp only [sameCells,Bool.and_eq_true,reduceCtorEq] at h
  rw [zeroV_eq h.1,List.length_cons,List.replicate_succ,← sameCells_spec h.2]
theorem rowOf_spec (a:TT) (z:PV):(rowOf a z).toPV=z:=by
 unfold rowOf
 split
 ·rename_i k cs
  split
  ·rename_i h
   simp only [XV.toPV,List.map_replicate,enc]
   rw [← sameCells_spec h]
  ·exact toPV_ofPV _
 ·rename_i cs
  split
  ·rename_i h
   simp only [XV.toPV,List.map_replicate,enc]
   rw [← sameCells_spec h]
  ·exact toPV_ofPV _
 ·exact toPV_ofPV _
def xAlloc (M s:Nat) (a:TT) (z:PV) (h:Heap) (n:Nat) (K:KX R):Option R:=match Nat.blt s M&&(z.stor&&Nat.blt 0 z.cells.length) with
 | true=>K (.optr s n 0 0) ((s,some (n,.row (rowOf a z)))::h) (n+1)
 | false=>none
def storX:XV→Bool
 | .tup _=>false
 | .dead=>false
 | .k p=>(match p with | .agg _=>false | p=>p.stor)
 | _=>true
theorem storX_spec {x:XV} (h:storX x=true):x.toPV.stor=true:=by
 cases x<;>first | rfl | (cases h; done) | skip
 rename_i p
 cases p<;>first | exact h | cases h
def xBox (M s sz:Nat) (x:XV) (h:Heap) (n:Nat) (K:KX R):Option R:=match Nat.blt s M&&(storX x&&Nat.blt 0 sz) with
 | true=>(match x with
  | .arr t l=>cond (decide (l.length=sz)) (K (.optr s n 0 0) ((s,some (n,.row x))::h) (n+1)) none
  | x=>(match Nat.beq x.cells.length sz with | true=>K (.optr s n 0 0) ((s,some (n,.row x))::h) (n+1) | false=>none))
 | false=>none
def fillX (ρ:Opd→XV):List XV→List (Nat×Nat×Opd)→Option (List XV)
 | cs,[]=>some cs
 | cs,p::r=>match notArr (ρ p.2.2)&&(Nat.beq (ρ p.2.2).cells.length p.2.1&&(Nat.ble (p.1+p.2.1) cs.length&&storX (ρ p.2.2))) with
  | true=>fillX ρ (cs.take p.1++(ρ p.2.2).cells++cs.drop (p.1+p.2.1)) r
  | false=>none
def xBld (ρ:Opd→XV) (z:List PV) (ps:List (Nat×Nat×Opd)) (h:Heap) (n:Nat) (K:KX R):Option R:=match fillX ρ (ofPV.ofPVL z) ps with
 | some cs=>K (.agg cs) h n
 | none=>none
def partsX (ρ:Opd→XV) (z:XV) (i:Nat):List (Nat×Opd)→XV
 | []=>z
 | p::r=>partsX ρ (match Nat.beq p.1 i with | true=>ρ p.2 | false=>z) i r
def xBsl (ρ:Opd→XV) (sz:Nat) (z:PV) (len:Nat) (ps:List (Nat×Opd)) (h:Heap) (n:Nat) (K:KX R):Option R :=
 match Nat.blt 0 sz&&(Nat.ble (len * sz) 16777216&&(Nat.beq z.cells.length sz&&(z.stor&&ps.all fun p=>notArr (ρ p.2)&&(Nat.beq (ρ p.2).cells.length sz&&(storX (ρ p.2)&&Nat.blt p.1 len))))) with
 | true=>K (.xl true ((List.range len).map fun i=>partsX ρ (ofPV z) i ps)) h n
 | false=>none
def ldvX (g:Bool) (m:Nat) (e:XV) (off:Nat):Option XV :=
 match Nat.beq off 0&&(Nat.beq e.cells.length m&&eqBB (isAggX e) g) with
 | true=>some e
 | false=>(match Nat.ble (off+m) e.cells.length with
  | true=>(match g with | true=>some (.agg ((e.cells.drop off).take m)) | false=>(match Nat.beq m 1 with | true=>e.cells[off]? | false=>none))
  | false=>none)
def ldK (g:Bool) (m:Nat) (e:XV) (off:Nat) (K:XV→Option R):Option R:=match e with
 | .arr t l=>(match g with
  | true=>(match Nat.beq off 0 with | true=>cond (decide (l.length=m)) (K (.arr t l)) none | false=>none)
  | false=>(match Nat.beq m 1&&encOne t with | true=>(l[off]?).bind fun v=>K (expand1 t v) | false=>none))
 | e=>(match ldvX g m e off with | some v=>K v | none=>none)
def xLoad (M:Nat) (g:Bool) (m:Nat) (a:XV) (h:Heap) (n:Nat) (K:KX R):Option R:=match a with
 | .optr b s i off=>(match rd M h b s with
  | some (.row e)=>(match Nat.beq i 0 with | true=>ldK g m e off (fun v=>K v h n) | false=>none)
  | some (.rows t l)=>(match t.fine with | true=>(l[i]?).bind fun v=>ldK g m (expand t v) off (fun v=>K v h n) | false=>none)
  | _=>none)
 | .sptr cs=>(match ldvX g m (.agg cs) 0 with | some v=>K v h n | none=>none)
 | _=>none
def stvX (e:XV) (off m:Nat) (x:XV):Option XV:=match notArr e&&(notArr x&&Nat.beq x.cells.length m) with
 | true=>(match Nat.beq off 0&&Nat.beq e.cells.length m with
  | true=>some x
  | false=>(match Nat.ble (off+m) e.cells.length with | true=>some (.agg (e.cells.take off++x.cells++e.cells.drop (off+m))) | false=>none))
 | false=>none
def stK (w:Bool) (e:XV) (off m:Nat) (x:XV) (K:XV→Option R):Option R:=match e with
 | .arr t l=>(match x with
  | .arr t' l'=>(match Nat.beq off 0 with | true=>cond (decide (l.length=m)&&decide (l'.length=m)) (K (.arr t' l')) none | false=>none)
  | x=>(match Nat.beq m 1&&encOne t with
   | true=>(match coll w t x with | some v=>cond (decide (off < l.length)&&decide (1 < l.length)) (K (.arr t (l.set off v))) none | none=>none)
   | false=>none))
 | e=>(match stvX e off m x with | some v=>K v | none=>none)
def xStore (w:Bool) (M:Nat) (m:Nat) (a x:XV) (h:Heap) (n:Nat) (K:KX R):Option R:=match a with
 | .optr b s i off=>(match storX x with
  | true=>(match rd M h b s with
   | some (.row e)=>(match Nat.beq i 0 with | true=>stK w e off m x (fun e'=>K (.k (.v undef)) ((b,some (s,.row e'))::h) n) | false=>none)
   | some (.rows t l)=>(match t.fine with
    | true=>(l[i]?).bind fun v=>stK w (expand t v) off m x fun e'=>(match coll w t e' with | some v'=>K (.k (.v undef)) ((b,some (s,.rows t (l.set i v')))::h) n | none=>none)
    | false=>none)
   | _=>none)
  | false=>none)
 | _=>none
def xNilc (x:XV) (h:Heap) (n:Nat) (K:KX R):Option R:=match x with
 | .optr .. | .sptr _ | .clo ..=>K x h n
 | _=>none
def xArith (op:BinOp) (k:IntKind) (a b:Int) (K:XV→Option R):Option R:=match op with
 | .add=>K (.i k (k.wrap (a+b)))
 | .sub=>K (.i k (k.wrap (a - b)))
 | .mul=>K (.i k (k.wrap (a * b)))
 | .quo=>cond (decide (b=0)) none (K (.i k (k.wrap (a.tdiv b))))
 | .rem=>cond (decide (b=0)) none (K (.i k (a.tmod b)))
 | .and=>K (.i k (k.wrap (BitVec.ofInt k.bits a &&& BitVec.ofInt k.bits b).toNat))
 | .or=>K (.i k (k.wrap (BitVec.ofInt k.bits a ||| BitVec.ofInt k.bits b).toNat))
 | .xor=>K (.i k (k.wrap (BitVec.ofInt k.bits a ^^^ BitVec.ofInt k.bits b).toNat))
 | .andNot=>K (.i k (k.wrap (BitVec.ofInt k.bits a &&& ~~~ BitVec.ofInt k.bits b).toNat))
 | .eql=>K (.b (a==b))
 | .neq=>K (.b (a != b))
 | .lss=>K (.b (decide (a < b)))
 | .leq=>K (.b (decide (a≤b)))
 | .gtr=>K (.b (decide (a > b)))
 | .geq=>K (.b (decide (a ≥ b)))
 | _=>none
def xShift (op:BinOp) (k:IntKind) (a b:Int) (K:XV→Option R):Option R:=match op with
 | .shl=>cond (decide (b < 0)) none (K (.i k (k.wrap (a * 2 ^ (min b.toNat k.bits)))))
 | .shr=>cond (decide (b < 0)) none (K (.i k (a.fdiv (2 ^ (min b.toNat k.bits)))))
 | _=>none
def isShift:BinOp→Bool
 | .shl=>true
 | .shr=>true
 | _=>false
def xStr (op:BinOp) (x y:ByteArray) (K:XV→Option R):Option R:=match op with
 | .add=>cond (decide (x.size+y.size≤4611686018427387904)) (K (.s (x++y))) none
 | .eql=>K (.b (x.toList==y.toList))
 | .neq=>K (.b !(x.toList==y.toList))
 | .lss=>K (.b (Op.bytesLess x.toList y.toList))
 | .leq=>K (.b (Op.bytesLess x.toList y.toList || x.toList==y.toList))
 | .gtr=>K (.b !(Op.bytesLess x.toList y.toList || x.toList==y.toList))
 | .geq=>K (.b !(Op.bytesLess x.toList y.toList))
 | _=>none
def xBin (op:BinOp) (x y:XV) (h:Heap) (n:Nat) (K:KX R):Option R:=match x,y with
 | .i k a,.i k' b=>(match isShift op with
  | true=>xShift op k a b (fun v=>K v h n)
  | false=>(match ikB k k' with | true=>xArith op k a b (fun v=>K v h n) | false=>none))
 | .s a,.s b=>xStr op a b (fun v=>K v h n)
 | _,_=>none
def xBinB (neg:Bool) (x y:XV) (h:Heap) (n:Nat) (K:KX R):Option R:=match x,y with
 | .b a,.b b=>(match neg with | true=>K (.b !(a==b)) h n | false=>K (.b (a==b)) h n)
 | _,_=>none
noncomputable def bothX {R:Type} (c:Bool) (a b:Option R):Option R:=@ite _ (c=true→a=b) (Classical.propDecidable _) b none
theorem bothX_some {R:Type} {c:Bool} {a b:Option R} {r:R} (h:bothX c a b=some r):b=some r∧(c=true→a=some r):=by
 unfold bothX at h
 split at h
 ·rename_i hc; exact ⟨h,fun q=>by rw [hc q]; exact h⟩
 ·cases h
theorem bothX_eq {R:Type} {c:Bool} {a b:Option R} (h:c=true→a=b):bothX c a b=b:=by
 unfold bothX
 rw [if_pos h]
noncomputable def xNilq (neg:Bool) (x:XV) (h:Heap) (n:Nat) (K:KX R):Option R:=match x with
 | .xl _ es=>(match es with | []=>bothX true (K (.b (!neg)) h n) (K (.b neg) h n) | _::_=>K (.b neg) h n)
 | .tl _ l=>bothX l.isEmpty (K (.b (!neg)) h n) (K (.b neg) h n)
 | .own _ _ _ _ len _=>bothX (decide (len=0)) (K (.b (!neg)) h n) (K (.b neg) h n)
 | _=>none
def eqKX (k:EK) (x y:XV):Option Bool:=match k,x,y with
 | .i,.i k a,.i k' b=>(match ikB k k' with | true=>some (a==b) | false=>none)
 | .b,.b a,.b b=>some (a==b)
 | .s,.s a,.s b=>some (a.toList==b.toList)
 | _,_,_=>none
def eqCX (cs ds:List XV):List (Nat×EK)→Option Bool
 | []=>some true
 | p::r=>match eqKX p.2 (cs.getD p.1 .dead) (ds.getD p.1 .dead),eqCX cs ds r with
  | some x,some y=>some (x&&y)
  | _,_=>none
def xEqA (neg:Bool) (sz:Nat) (plan:List (Nat×EK)) (x y:XV) (h:Heap) (n:Nat) (K:KX R):Option R:=match x,y with
 | .agg cs,.agg ds=>(match Nat.beq cs.length sz&&Nat.beq ds.length sz with
  | true=>(match eqCX cs ds plan with | some r=>(match neg with | true=>K (.b !r) h n | false=>K (.b r) h n) | none=>none)
  | false=>none)
 | _,_=>none
def xUn (op:UnOp) (x:XV) (h:Heap) (n:Nat) (K:KX R):Option R:=match x with
 | .b b=>(match op with | .not=>K (.b !b) h n | _=>none)
 | .i k m=>(match op with
  | .neg=>K (.i k (k.wrap (0 - m))) h n
  | .xor=>K (.i k (k.wrap (BitVec.ofInt k.bits (if k.signed then -1 else k.max) ^^^ BitVec.ofInt k.bits m).toNat)) h n
  | _=>none)
 | _=>none
def xConv (k:IntKind) (x:XV) (h:Heap) (n:Nat) (K:KX R):Option R:=match x with
 | .i _ m=>K (.i k (k.wrap m)) h n
 | _=>none
def xConvS (x:XV) (h:Heap) (n:Nat) (K:KX R):Option R:=match x with
 | .s m=>K (.s m) h n
 | _=>none
def fits (c bytes:Int):Bool:=decide (c * bytes≤70368744177664)&&decide (c≤70368744177664)
def xMksl (w:Bool) (M s sz bytes:Nat) (t:TT) (z:PV) (l c:XV) (h:Heap) (n:Nat) (K:KX R):Option R:=match l,c with
 | .i _ l,.i _ c=>(match Nat.blt s M&&(Nat.blt 0 sz&&(Nat.beq z.cells.length sz&&z.stor)) with
  | true=>(match coll w t (ofPV z) with
   | some v=>cond (decide (0≤l)&&(decide (l≤c)&&fits c bytes)) (K (.own s n sz 0 l.toNat (some c.toNat)) ((s,some (n,.rows t (List.replicate c.toNat v)))::h) (n+1)) none
   | none=>none)
  | false=>none)
 | _,_=>none
def subL {α:Type} (l:List α) (lo hi:Option Int):List α:=match lo,hi with
 | none,none=>l
 | some a,none=>l.drop a.toNat
 | none,some b=>l.take b.toNat
 | some a,some b=>(l.drop a.toNat).take (b.toNat - a.toNat)
def bndI (ρ:Opd→XV):Option Opd→Option (Option Int)
 | none=>some none
 | some x=>match ρ x with | .i _ i=>some (some i) | _=>none
def inB (lo hi:Option Int) (len:Nat):Bool:=match lo,hi with
 | none,none=>true
 | some a,none=>decide (0≤a)&&decide (a≤len)
 | none,some b=>decide (0≤b)&&decide (b≤len)
 | some a,some b=>decide (0≤a)&&(decide (a≤b)&&decide (b≤len))
def offX (off:Nat):Option Int→Nat
 | none=>off
 | some a=>off+a.toNat
def lenX (len:Nat):Option Int→Option Int→Nat
 | none,none=>len
 | some a,none=>len - a.toNat
 | none,some u=>u.toNat
 | some a,some u=>u.toNat - a.toNat
def hiX (len:Nat):Option Int→Int
 | none=>len
 | some u=>u
def capX:Option Nat→Option Int→Option Nat
 | none,_=>none
 | some c,none=>some c
 | some c,some a=>some (c - a.toNat)
def capG (len:Nat):Option Nat→Bool
 | none=>true
 | some c=>decide (len≤c)
def xRows (M:Nat) (h:Heap) (b s off len:Nat):Nat:=match rd M h b s with
 | some (.rows _ l)=>Nat.max len (l.length - off)
 | _=>len
def xSlc (w:Bool) (M:Nat) (ρ:Opd→XV) (sz:Nat) (x:XV) (lo hi mx:Option Opd) (h:Heap) (n:Nat) (K:KX R):Option R:=match x with
 | .tl t l=>(match mx with
  | none=>(match bndI ρ lo,bndI ρ hi,widB t sz with
   | some a,some b,true=>cond (inB a b l.length) (K (.tl t (subL l a b)) h n) none
   | _,_,_=>none)
  | some _=>none)
 | .own b s sz' off len cap=>(match Nat.beq sz' sz,bndI ρ lo,bndI ρ hi with
  | true,some lo',some hi'=>(match mx with
   | none=>(match cap,lo',hi' with
    | none,some a,some u=>cond (decide (0≤a)&&(decide (a≤u)&&decide (u≤(xRows M h b s off len:Nat)))) (K (.own b s sz (off+a.toNat) (u.toNat - a.toNat) none) h n) none
    | _,_,_=>cond (inB lo' hi' len&&capG len cap) (K (.own b s sz (offX off lo') (lenX len lo' hi') (capX cap lo')) h n) none)
   | some mx=>(match ρ mx with
    | .i _ m=>cond (inB lo' hi' len&&(decide (hiX len hi'≤m)&&decide (m≤(cap.getD len:Nat)))) (K (.own b s sz (offX off lo') (lenX len lo' hi') (capX (some m.toNat) lo')) h n) none
    | _=>none))
  | _,_,_=>none)
 | _=>none
def subS (x:ByteArray) (lo hi:Option Int):ByteArray:=match lo,hi with
 | none,none=>x.extract 0 x.size
 | some a,none=>x.extract a.toNat x.size
 | none,some b=>x.extract 0 b.toNat
 | some a,some b=>x.extract a.toNat b.toNat
def xSlS (ρ:Opd→XV) (x:XV) (lo hi:Option Opd) (h:Heap) (n:Nat) (K:KX R):Option R:=match x,bndI ρ lo,bndI ρ hi with
 | .s x,some a,some b=>cond (inB a b x.size) (K (.s (subS x a b)) h n) none
 | _,_,_=>none
def xFad (off:Nat) (x:XV) (h:Heap) (n:Nat) (K:KX R):Option R:=match x with
 | .optr b s i o=>K (.optr b s i (o+off)) h n
 | .sptr cs=>K (.sptr (cs.drop off)) h n
 | _=>none
def xFld (g:Bool) (off m:Nat) (x:XV) (h:Heap) (n:Nat) (K:KX R):Option R:=match x with
 | .agg cs=>(match g || Nat.beq m 1 with
  | true=>(match ldvX g m (.agg cs) off with | some v=>K v h n | none=>none)
  | false=>none)
 | _=>none
def xIad (sz:Nat) (x i:XV) (h:Heap) (n:Nat) (K:KX R):Option R:=match x,i with
 | .tl t l,.i _ i=>(match widB t sz&&t.fine with
  | true=>cond (decide (0≤i)) ((l[i.toNat]?).bind fun v=>K (.sptr (expand t v).cells) h n) none
  | false=>none)
 | .xl _ es,.i _ i=>cond (decide (0≤i)) (match es[i.toNat]? with
  | some e=>(match notArr e&&Nat.beq e.cells.length sz with | true=>K (.sptr e.cells) h n | false=>none)
  | none=>none) none
 | .own b s sz' off len _,.i _ i=>(match Nat.beq sz' sz with
  | true=>cond (decide (0≤i)&&decide (i < len)) (K (.optr b s (off+i.toNat) 0) h n) none
  | false=>none)
 | _,_=>none
def xIaA (len sz:Nat) (x i:XV) (h:Heap) (n:Nat) (K:KX R):Option R:=match x,i with
 | .optr b s j off,.i _ i=>cond (decide (0≤i)&&decide (i < len)) (K (.optr b s j (off+i.toNat * sz)) h n) none
 | .sptr cs,.i _ i=>cond (decide (0≤i)&&decide (i < len)) (K (.sptr (cs.drop (i.toNat * sz))) h n) none
 | _,_=>none
def xIxA (g:Bool) (len sz:Nat) (x i:XV) (h:Heap) (n:Nat) (K:KX R):Option R:=match x,i with
 | .arr t l,.i _ i=>(match g,Nat.beq sz 1,encOne t with
  | false,true,true=>cond (decide (0≤i)&&decide (i < len)) ((l[i.toNat]?).bind fun v=>K (expand1 t v) h n) none
  | _,_,_=>none)
 | .agg cs,.i _ i=>(match g || Nat.beq sz 1 with
  | true=>cond (decide (0≤i)&&decide (i < len)) (match ldvX g sz (.agg cs) (i.toNat * sz) with | some v=>K v h n | none=>none) none
  | false=>none)
 | _,_=>none
def xIxS (x i:XV) (h:Heap) (n:Nat) (K:KX R):Option R:=match x,i with
 | .s x,.i _ i=>cond (decide (0≤i)) ((x[i.toNat]?).bind fun c=>K (.i .u8 (c.toNat:Int)) h n) none
 | _,_=>none
def xExt (x:XV) (i:Nat) (h:Heap) (n:Nat) (K:KX R):Option R:=match x with
 | .tup cs=>(match cs[i]? with | some v=>K v h n | none=>none)
 | _=>none
def xLen (x:XV) (h:Heap) (n:Nat) (K:KX R):Option R:=match x with
 | .tl t l=>K (.i .i64 (l.length:Int)) h n
 | .xl _ es=>K (.i .i64 (es.length:Int)) h n
 | .own _ _ _ _ len _=>K (.i .i64 (len:Int)) h n
 | _=>none
def xLenS (x:XV) (h:Heap) (n:Nat) (K:KX R):Option R:=match x with
 | .s x=>K (.i .i64 (x.size:Int)) h n
 | _=>none
def xCap (x:XV) (h:Heap) (n:Nat) (K:KX R):Option R:=match x with
 | .xl true es=>K (.i .i64 (es.length:Int)) h n
 | .own _ _ _ _ _ (some c)=>K (.i .i64 (c:Int)) h n
 | _=>none
def elX (w:Bool) (M:Nat) (t:TT) (h:Heap) (x:XV):Option (List t.den×Bool):=match x with
 | .tl t' l=>(match castL t' t l with | some l=>some (l,true) | none=>none)
 | .xl _ es=>(match collEs (coll w t) es with | some l=>some (l,true) | none=>none)
 | .own b s _ off len _=>(match rd M h b s with
  | some (.rows t' l)=>(match castL t' t l with | some l=>some ((l.drop off).take len,decide (off+len≤l.length)) | none=>none)
  | _=>none)
 | _=>none
def xApp (w:Bool) (M s sz bytes:Nat) (t:TT) (z:PV) (x y:XV) (h:Heap) (n:Nat) (K:KX R):Option R :=
 match Nat.blt s M&&(Nat.blt 0 sz&&(Nat.beq z.cells.length sz&&(z.stor&&widB t sz))),elX w M t h y with
 | true,some (ys,g)=>cond g (match x with
  | .xl true []=>(match w with
   | true=>cond (fits (ys.length:Int) bytes) (K (.own s n sz 0 ys.length none) ((s,some (n,.rows t ys))::h) (n+1)) none
   | false=>cond (fits (ys.length:Int) bytes) (cond ys.isEmpty (K (.xl true []) h n) (K (.own s n sz 0 ys.length none) ((s,some (n,.rows t ys))::h) (n+1))) none)
  | .xl true (e::es)=>(match elX w M t h (.xl true (e::es)) with
   | some (xs,true)=>cond (fits ((xs.length+ys.length:Nat):Int) bytes&&!ys.isEmpty) (K (.own s n sz 0 (xs.length+ys.length) none) ((s,some (n,.rows t (xs++ys)))::h) (n+1)) none
   | _=>none)
  | .own b st sz' off len cap=>(match rd M h b st,Nat.beq sz' sz with
   | some (.rows t' l),true=>(match castL t' t l with
    | some l=>(match cap with
     | none=>(match w&&Nat.beq off 0 with
      | true=>cond (decide (len=l.length)&&fits ((len+ys.length:Nat):Int) bytes) (K (.own b n sz 0 (len+ys.length) none) ((b,some (n,.rows t (l++ys)))::h) (n+1)) none
      | false=>cond (decide (off+len≤l.length)&&fits ((len+ys.length:Nat):Int) bytes) (cond (decide (off+len+ys.length≤l.length))
        (K (.own b st sz off (len+ys.length) none) ((b,some (st,.rows t (l.take (off+len)++ys++l.drop (off+len+ys.length))))::h) n)
        (K (.own b n sz 0 (len+ys.length) none) ((b,some (n,.rows t ((l.drop off).take len++ys)))::h) (n+1))) none)
     | some c=>cond (decide (off+len≤l.length)&&fits ((len+ys.length:Nat):Int) bytes) (cond (decide (len+ys.length≤c))
        (cond (decide (off+len+ys.length≤l.length)) (K (.own b st sz off (len+ys.length) (some c)) ((b,some (st,.rows t (l.take (off+len)++ys++l.drop (off+len+ys.length))))::h) n) none)
        (K (.own s n sz 0 (len+ys.length) none) ((s,some (n,.rows t ((l.drop off).take len++ys)))::h) (n+1))) none)
    | none=>none)
   | _,_=>none)
  | _=>none) none
 | _,_=>none
def xCpy (w:Bool) (M sz:Nat) (x y:XV) (h:Heap) (n:Nat) (K:KX R):Option R:=match x with
 | .own b s sz' off len cap=>(match rd M h b s,Nat.beq sz' sz with
  | some (.rows t l),true=>(match elX w M t h y,widB t sz with
   | some (ys,g),true=>cond (g&&decide (off+len≤l.length)) (K (.i .i64 ((min ys.length len:Nat):Int)) ((b,some (s,.rows t (l.take off++ys.take (min ys.length len)++l.drop (off+min ys.length len))))::h) n) none
   | _,_=>none)
  | _,_=>none)
 | _=>none
def mmOne:Bool→Int→Int→Int
 | true,m,n=>max m n
 | false,m,n=>min m n
def mmX (mx:Bool) (k:IntKind) (m:Int):List XV→Option Int
 | []=>some m
 | x::r=>match x with
  | .i k' n=>(match ikB k k' with | true=>mmX mx k (mmOne mx m n) r | false=>none)
  | _=>none
def xMm (mx:Bool) (xs:List XV) (h:Heap) (n:Nat) (K:KX R):Option R:=match xs with
 | .i k m::r=>(match mmX mx k m r with | some m=>K (.i k m) h n | none=>none)
 | _=>none
def eqD:(t:TT)→t.den→t.den→Bool
 | .i _,a,b=>a==b
 | .b,a,b=>a==b
 | .s,a,b=>a.toList==b.toList
 | _,_,_=>false
def keyB:EK→TT→Bool
 | .i,.i _=>true
 | .b,.b=>true
 | .s,.s=>true
 | _,_=>false
def mget {kt vt:TT} (key:kt.den):List (kt.den×vt.den)→Option vt.den
 | []=>none
 | p::r=>cond (eqD kt key p.1) (some p.2) (mget key r)
def mput {kt vt:TT} (key:kt.den) (v:vt.den):List (kt.den×vt.den)→List (kt.den×vt.den)
 | []=>[(key,v)]
 | p::r=>cond (eqD kt key p.1) ((key,v)::r) (p::mput key v r)
def mdel {kt vt:TT} (key:kt.den):List (kt.den×vt.den)→List (kt.den×vt.den)
 | []=>[]
 | p::r=>cond (eqD kt key p.1) r (p::mdel key r)
def xMkm (M s:Nat) (a:TT) (h:Heap) (n:Nat) (K:KX R):Option R:=match Nat.blt s M with
 | true=>(match a with
  | .p kt vt=>K (.mp s n) ((s,some (n,.map kt vt []))::h) (n+1)
  | _=>K (.mp s n) ((s,some (n,.mapX []))::h) (n+1))
 | false=>none
def okX (ok:Bool) (v:XV) (is:Bool) (h:Heap) (n:Nat) (K:KX R):Option R:=match ok with
 | true=>K (.tup [v,.b is]) h n
 | false=>K v h n
def lkpX (ok:Bool) (k:EK) (z:XV) (key:XV) (h:Heap) (n:Nat) (K:KX R):List (XV×XV)→Option R
 | []=>okX ok z false h n K
 | p::r=>match eqKX k key p.1 with
  | some c=>cond c (okX ok p.2 true h n K) (lkpX ok k z key h n K r)
  | none=>none
def lkpM (ok:Bool) (vt:TT) (K:KX R) (v:vt.den) (is:Bool) (h:Heap) (n:Nat):Option R:=match ok with
 | true=>K (.tup [expand vt v,.b is]) h n
 | false=>K (expand vt v) h n
def xLkp (w:Bool) (M:Nat) (ok:Bool) (k:EK) (z:PV) (x key:XV) (h:Heap) (n:Nat) (K:KX R):Option R:=match x with
 | .mp b s=>(match rd M h b s with
  | some (.map kt vt l)=>(match coll false kt key,coll w vt (ofPV z),keyB k kt&&vt.fine with
   | some key,some z,true=>lkpM ok vt K ((mget key l).getD z) (mget key l).isSome h n
   | _,_,_=>none)
  | some (.mapX l)=>lkpX ok k (ofPV z) key h n K l
  | _=>none)
 | _=>none
def bytB:List UInt8→List UInt8→Bool
 | [],[]=>true
 | x::r,y::l=>(match Nat.beq x.toBitVec.toFin.val y.toBitVec.toFin.val with | true=>bytB r l | false=>false)
 | _,_=>false
def intB:Int→Int→Bool
 | .ofNat a,.ofNat b=>Nat.beq a b
 | .negSucc a,.negSucc b=>Nat.beq a b
 | _,_=>false
theorem bytB_self:∀ l:List UInt8,bytB l l=true
 | []=>rfl
 | x::r=>by simp only [bytB,Nat.beq_refl]; exact bytB_self r
theorem intB_self (n:Int):intB n n=true:=by cases n<;>simp [intB,Nat.beq_refl]
theorem toList_loop0 (s:ByteArray):∀ (n i:Nat) (r:List UInt8),s.size - i=n→i≤s.size→ByteArray.toList.loop s i r=r.reverse++(s.data.toList.drop i):=by
 intro n
 induction n with
 | zero =>
  intro i r h hi
  have:i=s.size:=by omega
  unfold ByteArray.toList.loop
  rw [if_neg (by omega),List.drop_eq_nil_of_le (by rw [Array.length_toList]; show s.size≤i; omega),List.append_nil]
 | succ n ih =>
  intro i r h hi
  unfold ByteArray.toList.loop
  rw [if_pos (by omega),ih (i+1) _ (by omega) (by omega)]
  have hlt:i < s.data.toList.length:=by rw [Array.length_toList]; show i < s.size; omega
  have e:s.get! i=s.data.toList[i]:=by
   show s.data[i]! = _
   rw [getElem!_pos s.data i (by rw [Array.length_toList] at hlt; exact hlt)]
   simp
  rw [List.reverse_cons,List.append_assoc,List.singleton_append,e,List.drop_eq_getElem_cons hlt]
theorem toList_data0 (s:ByteArray):s.toList=s.data.toList:=by
 have:=toList_loop0 s (s.size - 0) 0 [] rfl (Nat.zero_le _)
 unfold ByteArray.toList
 rw [this]; simp
def neKX (k:EK) (x y:XV):Bool:=match k,x,y with
 | .i,.i k a,.i k' b=>(match ikB k k' with | true=>!intB a b | false=>false)
 | .s,.s a,.s b=>!bytB a.data.toList b.data.toList
 | _,_,_=>false
theorem neKX_spec {k:EK} {x y:XV} (h:neKX k x y=true):eqKX k x y=some false:=by
 unfold neKX at h
 split at h
 ·rename_i k a k' b
  simp only [eqKX]
  split at h
  ·rename_i hk
   rw [Option.some.injEq,beq_eq_false_iff_ne]
   rintro rfl
   rw [intB_self] at h; cases h
  ·cases h
 ·rename_i a b
  simp only [eqKX]
  rw [Option.some.injEq,beq_eq_false_iff_ne,toList_data0,toList_data0]
  intro e
  rw [e,bytB_self] at h; cases h
 ·cases h
def litKey (k:EK) (key:XV):List (XV×XV)→Bool
 | []=>true
 | p::r=>match neKX k key p.1 with
  | true=>litKey k key r
  | false=>false
def xMup (w:Bool) (M:Nat) (k:EK) (x key v:XV) (h:Heap) (n:Nat) (K:KX R):Option R:=match x with
 | .mp b s=>(match rd M h b s with
  | some (.map kt vt l)=>(match coll false kt key,coll false vt v,keyB k kt with
   | some key,some v,true=>K (.k (.v undef)) ((b,some (s,.map kt vt (mput key v l)))::h) n
   | _,_,_=>none)
  | some (.mapX l)=>(match litKey k key l with
   | true=>K (.k (.v undef)) ((b,some (s,.mapX (l++[(key,v)])))::h) n
   | false=>none)
  | _=>none)
 | _=>none
def xDel (M:Nat) (k:EK) (x key:XV) (h:Heap) (n:Nat) (K:KX R):Option R:=match x with
 | .mp b s=>(match rd M h b s with
  | some (.map kt vt l)=>(match coll false kt key,keyB k kt with
   | some key,true=>K (.tup []) ((b,some (s,.map kt vt (mdel key l)))::h) n
   | _,_=>none)
  | _=>none)
 | _=>none
def xLenM (M:Nat) (x:XV) (h:Heap) (n:Nat) (K:KX R):Option R:=match x with
 | .mp b s=>(match rd M h b s with
  | some (.map kt vt l)=>K (.i .i64 (l.length:Int)) h n
  | some (.mapX l)=>K (.i .i64 (l.length:Int)) h n
  | _=>none)
 | _=>none
def xClr (w:Bool) (M sz:Nat) (z:PV) (x:XV) (h:Heap) (n:Nat) (K:KX R):Option R:=match x with
 | .own b s sz' off len cap=>(match rd M h b s,Nat.beq sz' sz&&(Nat.beq z.cells.length sz&&z.stor) with
  | some (.rows t l),true=>(match coll w t (ofPV z) with
   | some v=>cond (decide (off+len≤l.length)) (K (.tup []) ((b,some (s,.rows t (l.take off++List.replicate len v++l.drop (off+len))))::h) n) none
   | none=>none)
  | _,_=>none)
 | _=>none
def xBts (w:Bool) (M:Nat) (x:XV) (h:Heap) (n:Nat) (K:KX R):Option R:=match elX false M (.i .u8) h x with
 | some (l,g)=>cond g (K (.s (txtOf l)) h n) none
 | none=>none
def xRngS (M s:Nat) (x:XV) (h:Heap) (n:Nat) (K:KX R):Option R:=match x,Nat.blt s M with
 | .s t,true=>K (.optr s n 0 0) ((s,some (n,.iter t 0))::h) (n+1)
 | _,_=>none
def xNxtS (M:Nat) (x:XV) (h:Heap) (n:Nat) (K:KX R):Option R:=match x with
 | .optr b s i off=>(match rd M h b s,Nat.beq i 0&&Nat.beq off 0 with
  | some (.iter t pos),true=>cond (decide (pos < t.size)) (K (.tup [.b true,.i .i64 (pos:Int),.i .i32 ((Utf8.decode t pos).1:Int)]) ((b,some (s,.iter t (pos+(Utf8.decode t pos).2)))::h) n) (K (.tup [.b false]) h n)
  | _,_=>none)
 | _=>none
noncomputable def xOp (w:Bool) (M:Nat) (a:TT) (ρ:Opd→XV) (h:Heap) (n:Nat) (K:KX R):IOp→Option R
 | .mov x=>K (ρ x) h n
 | .pick c a b=>xPick (ρ c) (ρ a) (ρ b) h n K
 | .alloc s z=>xAlloc M s a z h n K
 | .box s sz x=>xBox M s sz (ρ x) h n K
 | .bld z ps=>xBld ρ z ps h n K
 | .bsl sz z len ps=>xBsl ρ sz z len ps h n K
 | .load g m a=>xLoad M g m (ρ a) h n K
 | .store m a x=>xStore w M m (ρ a) (ρ x) h n K
 | .nilc x=>xNilc (ρ x) h n K
 | .bin op x y=>xBin op (ρ x) (ρ y) h n K
 | .binB neg x y=>xBinB neg (ρ x) (ρ y) h n K
 | .nilq neg x=>xNilq neg (ρ x) h n K
 | .eqA neg sz plan x y=>xEqA neg sz plan (ρ x) (ρ y) h n K
 | .un op x=>xUn op (ρ x) h n K
 | .conv k x=>xConv k (ρ x) h n K
 | .convS x=>xConvS (ρ x) h n K
 | .fn f fs cs=>K (.clo f (fs.map ρ) (cs.map ρ)) h n
 | .mksl s sz bytes z l c=>xMksl w M s sz bytes a z (ρ l) (ρ c) h n K
 | .slc sz x lo hi mx=>xSlc w M ρ sz (ρ x) lo hi mx h n K
 | .slS x lo hi=>xSlS ρ (ρ x) lo hi h n K
 | .fad off x=>xFad off (ρ x) h n K
 | .fld g off m x=>xFld g off m (ρ x) h n K
 | .iad sz x i=>xIad sz (ρ x) (ρ i) h n K
 | .iaA len sz x i=>xIaA len sz (ρ x) (ρ i) h n K
 | .ixA g len sz x i=>xIxA g len sz (ρ x) (ρ i) h n K
 | .ixS x i=>xIxS (ρ x) (ρ i) h n K
 | .ext x i=>xExt (ρ x) i h n K
 | .len x=>xLen (ρ x) h n K
 | .lenS x=>xLenS (ρ x) h n K
 | .cap x=>xCap (ρ x) h n K
 | .app s sz bytes z x y=>xApp w M s sz bytes a z (ρ x) (ρ y) h n K
 | .cpy sz x y=>xCpy w M sz (ρ x) (ρ y) h n K
 | .mm mx xs=>xMm mx (xs.map ρ) h n K
 | .mkm s=>xMkm M s a h n K
 | .lkp ok k z x key=>xLkp w M ok k z (ρ x) (ρ key) h n K
 | .mup k x key v=>xMup w M k (ρ x) (ρ key) (ρ v) h n K
 | .del k x key=>xDel M k (ρ x) (ρ key) h n K
 | .lenM x=>xLenM M (ρ x) h n K
 | .clr sz z x=>xClr w M sz z (ρ x) h n K
 | .bts x=>xBts w M (ρ x) h n K
 | .rngS s x=>xRngS M s (ρ x) h n K
 | .nxtS x=>xNxtS M (ρ x) h n K
 | _=>none
end Go.Proofs.Yticljphbbdnomaa.VL
