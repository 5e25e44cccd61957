import Derived.Test.YtemdbhdjchkllaaW1Vs
namespace Go.Proofs.Ytemdbhdjchkllaa.VL
open Go
set_option linter.unusedVariables false
set_option linter.unusedSimpArgs false
set_option linter.unusedSectionVars false
variable [Val]
inductive TT where
 | i (k:IntKind)
 | b
 | s
 | sl (t:TT)
 | p (x y:TT)
 | ar (t:TT)
 deriving Inhabited
@[reducible] def TT.den:TT→Type
 | .i _=>Int
 | .b=>Bool
 | .s=>ByteArray
 | .sl t=>List t.den
 | .p x y=>x.den×y.den
 | .ar t=>List t.den
def enc:(t:TT)→t.den→PV
 | .i k,n=>.v (.int k n)
 | .b,x=>.v (.bool x)
 | .s,x=>.v (.string x)
 | .sl t,l=>.sl false (l.map (enc t))
 | .p x y,v=>.agg ((enc x v.1).cells++(enc y v.2).cells)
 | .ar t,l=>.agg (l.map (enc t))
inductive XV where
 | i (k:IntKind) (n:Int)
 | b (x:Bool)
 | s (x:ByteArray)
 | k (p:PV)
 | agg (cs:List XV)
 | arr (t:TT) (l:List t.den)
 | tup (cs:List XV)
 | tl (t:TT) (l:List t.den)
 | xl (c:Bool) (es:List XV)
 | own (b s sz off len:Nat) (cap:Option Nat)
 | optr (b s i off:Nat)
 | sptr (cs:List XV)
 | clo (f:Nat) (fs cs:List XV)
 | mp (b s:Nat)
 | dead
 deriving Inhabited
mutual
def XV.toPV:XV→PV
 | .i k n=>.v (.int k n)
 | .b x=>.v (.bool x)
 | .s x=>.v (.string x)
 | .k p=>match p with | .agg _=>.dead | p=>p
 | .agg cs=>.agg (toPVL cs)
 | .arr t l=>.agg (l.map (enc t))
 | .tup cs=>.tup (toPVL cs)
 | .tl t l=>.sl false (l.map (enc t))
 | .xl c es=>.sl c (toPVL es)
 | .own b s sz off len cap=>.own b s sz off len cap
 | .optr b s i off=>.optr b s i off
 | .sptr cs=>.sptr (toPVL cs)
 | .clo f fs cs=>.clo f (toPVL fs) (toPVL cs)
 | .mp b s=>.mp b s
 | .dead=>.dead
def toPVL:List XV→List PV
 | []=>[]
 | x::r=>x.toPV::toPVL r
end
theorem toPVL_map:∀ l:List XV,toPVL l=l.map XV.toPV
 | []=>by simp [toPVL]
 | x::r=>by simp [toPVL,toPVL_map r]
def expand1:(t:TT)→t.den→XV
 | .i k,n=>.i k n
 | .b,x=>.b x
 | .s,x=>.s x
 | .sl t,l=>.tl t l
 | .p x y,v=>.dead
 | .ar t,l=>.arr t l
def encOne:TT→Bool
 | .i _ | .b | .s=>true
 | _=>false
def XV.cells:XV→List XV
 | .agg cs=>cs
 | .arr t l=>match encOne t with | true=>l.map (expand1 t) | false=>l.map (fun v=>.k (enc t v))
 | x=>[x]
def expand:(t:TT)→t.den→XV
 | .i k,n=>.i k n
 | .b,x=>.b x
 | .s,x=>.s x
 | .sl t,l=>.tl t l
 | .p x y,v=>.agg ((expand x v.1).cells++(expand y v.2).cells)
 | .ar t,l=>.arr t l
def TT.fine:TT→Bool
 | .i _ | .b | .s=>true
 | .sl t=>t.fine
 | .p x y=>x.fine&&y.fine
 | .ar t=>encOne t
theorem toPV_expand1 {t:TT} (h:encOne t=true) (v:t.den):(expand1 t v).toPV=enc t v:=by
 cases t<;>first | (cases h; done) | (simp [expand1,XV.toPV,enc])
theorem cells_toPV (x:XV) (hx:∀ t l,x=.arr t l→encOne t=true):x.toPV.cells=toPVL x.cells:=by
 cases x with
 | k p=>simp only [XV.toPV,XV.cells,toPVL]; cases p<;>rfl
 | agg cs=>simp [XV.toPV,PV.cells,XV.cells]
 | arr t l =>
  have h:=hx t l rfl
  simp only [XV.toPV,PV.cells,XV.cells,h,toPVL_map,List.map_map]
  congr 1
  funext v
  exact (toPV_expand1 h v).symm
 | _=>simp [XV.toPV,PV.cells,XV.cells,toPVL]
theorem toPVL_append (l m:List XV):toPVL (l++m)=toPVL l++toPVL m:=by simp [toPVL_map]
theorem fine_arr {t t':TT} {v:t.den} {l:List t'.den} (h:t.fine=true) (he:expand t v=.arr t' l):encOne t'=true:=by
 cases t<;>simp only [expand,XV.arr.injEq,reduceCtorEq] at he
 obtain ⟨rfl,_⟩:=he
 exact h
theorem toPV_expand:∀ {t:TT} (v:t.den),t.fine=true→(expand t v).toPV=enc t v
 | .i k,n,_=>by simp [expand,XV.toPV,enc]
 | .b,x,_=>by simp [expand,XV.toPV,enc]
 | .s,x,_=>by simp [expand,XV.toPV,enc]
 | .sl t,l,_=>by simp [expand,XV.toPV,enc]
 | .p x y,v,h=>by
  simp only [TT.fine,Bool.and_eq_true] at h
  have h1:=cells_toPV (expand x v.1) (fun t l he=>fine_arr h.1 he)
  have h2:=cells_toPV (expand y v.2) (fun t l he=>fine_arr h.2 he)
  simp only [expand,XV.toPV,enc,toPVL_append,← h1,← h2,toPV_expand v.1 h.1,toPV_expand v.2 h.2]
 | .ar t,l,_=>by simp [expand,XV.toPV,enc]
def ofPV:PV→XV
 | .v (.int k n)=>.i k n
 | .v (.bool b)=>.b b
 | .v (.string s)=>.s s
 | .agg cs=>.agg (ofPVL cs)
 | .tup cs=>.tup (ofPVL cs)
 | .sl c es=>.xl c (ofPVL es)
 | .clo f fs cs=>.clo f (ofPVL fs) (ofPVL cs)
 | .sptr cs=>.sptr (ofPVL cs)
 | .dead=>.dead
 | p=>.k p
where ofPVL:List PV→List XV
 | []=>[]
 | p::r=>ofPV p::ofPVL r
mutual
theorem toPV_ofPV:∀ p:PV,(ofPV p).toPV=p
 | .v x=>by cases x<;>simp [ofPV,XV.toPV]
 | .agg cs=>by simp [ofPV,XV.toPV,toPVL_ofPVL cs]
 | .tup cs=>by simp [ofPV,XV.toPV,toPVL_ofPVL cs]
 | .sl c es=>by simp [ofPV,XV.toPV,toPVL_ofPVL es]
 | .clo f fs cs=>by simp [ofPV,XV.toPV,toPVL_ofPVL fs,toPVL_ofPVL cs]
 | .sptr cs=>by simp [ofPV,XV.toPV,toPVL_ofPVL cs]
 | .own ..=>by simp [ofPV,XV.toPV]
 | .optr ..=>by simp [ofPV,XV.toPV]
 | .mp ..=>by simp [ofPV,XV.toPV]
 | .sy _=>by simp [ofPV,XV.toPV]
 | .dead=>by simp [ofPV,XV.toPV]
theorem toPVL_ofPVL:∀ l:List PV,toPVL (ofPV.ofPVL l)=l
 | []=>by simp [ofPV.ofPVL,toPVL]
 | p::r=>by simp [ofPV.ofPVL,toPVL,toPV_ofPV p,toPVL_ofPVL r]
end
def ikB:IntKind→IntKind→Bool
 | .i8,.i8 | .i16,.i16 | .i32,.i32 | .i64,.i64 | .u8,.u8 | .u16,.u16 | .u32,.u32 | .u64,.u64=>true
 | _,_=>false
theorem ikB_eq {k k':IntKind} (h:ikB k k'=true):k=k':=by cases k<;>cases k'<;>first | rfl | cases h
def ttB:TT→TT→Bool
 | .i k,.i k'=>ikB k k'
 | .b,.b=>true
 | .s,.s=>true
 | .sl t,.sl t'=>ttB t t'
 | .p x y,.p x' y'=>ttB x x'&&ttB y y'
 | .ar t,.ar t'=>ttB t t'
 | _,_=>false
theorem ttB_eq:∀ {t t':TT},ttB t t'=true→t=t'
 | .i k,.i k',h=>by rw [ikB_eq h]
 | .b,.b,_=>rfl
 | .s,.s,_=>rfl
 | .sl t,.sl t',h=>by rw [ttB_eq (t:=t) (t':=t') h]
 | .p x y,.p x' y',h=>by
  simp only [ttB,Bool.and_eq_true] at h
  rw [ttB_eq h.1,ttB_eq h.2]
 | .ar t,.ar t',h=>by rw [ttB_eq (t:=t) (t':=t') h]
def castL (t t':TT) (l:List t.den):Option (List t'.den):=match h:ttB t t' with
 | true=>some ((ttB_eq h) ▸ l)
 | false=>none
theorem castL_spec {t t':TT} {l:List t.den} {l':List t'.den} (h:castL t t' l=some l'):∃ e:t=t',l'=e ▸ l:=by
 unfold castL at h
 split at h
 ·rename_i he
  cases h
  exact ⟨ttB_eq he,rfl⟩
 ·cases h
end Go.Proofs.Ytemdbhdjchkllaa.VL
