import Derived.Test.YticljphbbdnomaaW1Vt
namespace Go.Proofs.Yticljphbbdnomaa.VL
open Go
set_option linter.unusedVariables false
set_option linter.unusedSimpArgs false
set_option linter.unusedSectionVars false
variable [Val]
def blkEs (h:List Slot) (b s:Nat):List PV:=match h[b]? with | some (some (s',.cells es))=>if s'=s then es else [] | _=>[]
def rowAt (h:List Slot) (b s i:Nat):PV:=(blkEs h b s).getD i .dead
def mapPs (h:List Slot) (b s:Nat):List (PV×PV):=match h[b]? with | some (some (s',.map ps))=>if s'=s then ps else [] | _=>[]
def mapIs (h:List Slot) (b s:Nat):Prop:=match h[b]? with | some (some (s',.map _))=>s'=s | _=>False
def iterAt (h:List Slot) (b s:Nat):Option (ByteArray×Nat):=match h[b]? with | some (some (s',.iter t pos))=>if s'=s then some (t,pos) else none | _=>none
def intOf':PV→Int | .v (.int _ i)=>i | _=>0
def strOf:PV→ByteArray | .v (.string s)=>s | _=>⟨#[]⟩
def bndV (ρ:Opd→PV) (d:Int):Option Opd→Int | none=>d | some x=>intOf' (ρ x)
def opRes (ρ:Opd→PV) (h:List Slot) (n:Nat):IOp→PV×List Slot×Nat
 | .mov x=>(ρ x,h,n)
 | .alloc s z=>(.optr s n 0 0,h.set s (some (n,.cells [z])),n+1)
 | .box s _ x=>(.optr s n 0 0,h.set s (some (n,.cells [ρ x])),n+1)
 | .bld z ps=>(.agg ((fillV ρ z ps).getD []),h,n)
 | .bsl _ z len ps=>(.sl true ((List.range len).map fun i=>partsV ρ z i ps),h,n)
 | .load g m a=>(match ρ a with | .optr b s i off=>(ldv g m (rowAt h b s i) off).getD .dead | .sptr cs=>(ldv g m (.agg cs) 0).getD .dead | _=>.dead,h,n)
 | .store m a x=>(.v undef,(match ρ a with | .optr b s i off=>h.set b (some (s,.cells ((blkEs h b s).set i ((stv (rowAt h b s i) off m (ρ x)).getD .dead)))) | _=>h),n)
 | .nilc x=>(ρ x,h,n)
 | .bin op x y=>(.v ((binV op (ρ x) (ρ y)).getD undef),h,n)
 | .binB neg x y=>(match ρ x,ρ y with | .v (.bool a),.v (.bool b)=>.v (.bool (if neg then !(a==b) else a==b)) | _,_=>.dead,h,n)
 | .eqA neg sz plan x y=>(match ρ x,ρ y with | .agg cs,.agg ds=>.v (.bool (if neg then !((eqVs sz plan cs ds).getD false) else (eqVs sz plan cs ds).getD false)) | _,_=>.dead,h,n)
 | .un op x=>(.v ((unV op (ρ x)).getD undef),h,n)
 | .conv k x=>(.v (.int k (k.wrap (intOf' (ρ x)))),h,n)
 | .convS x=>(ρ x,h,n)
 | .fn f fs cs=>(.clo f (fs.map ρ) (cs.map ρ),h,n)
 | .mksl s sz _ z l c=>(.own s n sz 0 (intOf' (ρ l)).toNat (some (intOf' (ρ c)).toNat),h.set s (some (n,.cells (List.replicate (intOf' (ρ c)).toNat z))),n+1)
 | .slc sz x lo hi mx=>(match ρ x with
   | .sl c es=>.sl (mx.isSome&&decide (bndV ρ es.length mx=bndV ρ es.length hi) || c&&decide (bndV ρ es.length hi=es.length)) ((es.drop (bndV ρ 0 lo).toNat).take ((bndV ρ es.length hi).toNat - (bndV ρ 0 lo).toNat))
   | .own b s _ off len cap=>.own b s sz (off+(bndV ρ 0 lo).toNat) ((bndV ρ len hi).toNat - (bndV ρ 0 lo).toNat) (match mx with | none=>cap.map (· - (bndV ρ 0 lo).toNat) | some m=>some ((intOf' (ρ m)).toNat - (bndV ρ 0 lo).toNat))
   | _=>.dead,h,n)
 | .slS x lo hi=>(.v (.string ((strOf (ρ x)).extract (bndV ρ 0 lo).toNat (bndV ρ (strOf (ρ x)).size hi).toNat)),h,n)
 | .fad off x=>(match ρ x with | .optr b s i o=>.optr b s i (o+off) | .sptr cs=>.sptr (cs.drop off) | _=>.dead,h,n)
 | .fld g off m x=>(match ρ x with | .agg cs=>(ldv g m (.agg cs) off).getD .dead | _=>.dead,h,n)
 | .iad sz x i=>(match ρ x with | .sl _ es=>.sptr (es.getD (intOf' (ρ i)).toNat .dead).cells | .own b s _ off _ _=>.optr b s (off+(intOf' (ρ i)).toNat) 0 | _=>.dead,h,n)
 | .iaA _ sz x i=>(match ρ x with | .optr b s j off=>.optr b s j (off+(intOf' (ρ i)).toNat * sz) | .sptr cs=>.sptr (cs.drop ((intOf' (ρ i)).toNat * sz)) | _=>.dead,h,n)
 | .ixA g _ sz x i=>(match ρ x with | .agg cs=>(ldv g sz (.agg cs) ((intOf' (ρ i)).toNat * sz)).getD .dead | _=>.dead,h,n)
 | .ixS x i=>(.v (.int .u8 ((strOf (ρ x))[(intOf' (ρ i)).toNat]?.getD 0).toNat),h,n)
 | .ext x i=>(match ρ x with | .tup cs=>cs.getD i .dead | _=>.dead,h,n)
 | .len x=>(match ρ x with | .sl _ es=>.v (.int .i64 es.length) | .own _ _ _ _ len _=>.v (.int .i64 len) | _=>.dead,h,n)
 | .lenS x=>(.v (.int .i64 (strOf (ρ x)).size),h,n)
 | .mm mx xs=>(.v ((mmV mx (xs.map ρ)).getD undef),h,n)
 | .cpy sz x y=>match ρ x with
   | .own b st _ off len _=>(.v (.int .i64 (min ((elems h (ρ y)).getD []).length len:Nat)),h.set b (some (st,.cells ((blkEs h b st).take off++((elems h (ρ y)).getD []).take (min ((elems h (ρ y)).getD []).length len)++(blkEs h b st).drop (off+min ((elems h (ρ y)).getD []).length len)))),n)
   | _=>(.v (.int .i64 0),h,n)
 | .mkm s=>(.mp s n,h.set s (some (n,.map [])),n+1)
 | .lkp ok k z x key=>(match ρ x with | .mp b s=>lkV ok z (mapPs h b s) ((mFind k (ρ key) (mapPs h b s) 0).getD none) | _=>.dead,h,n)
 | .mup k x key v=>(.v undef,(match ρ x with | .mp b s=>h.set b (some (s,.map (mPut (mapPs h b s) ((mFind k (ρ key) (mapPs h b s) 0).getD none) (ρ key) (ρ v)))) | _=>h),n)
 | .del k x key=>(.tup [],(match ρ x with | .mp b s=>h.set b (some (s,.map (mDel (mapPs h b s) ((mFind k (ρ key) (mapPs h b s) 0).getD none)))) | _=>h),n)
 | .lenM x=>(match ρ x with | .mp b s=>.v (.int .i64 (mapPs h b s).length) | _=>.dead,h,n)
 | .clr sz z x=>(.tup [],(match ρ x with | .own b st _ off len _=>h.set b (some (st,.cells ((blkEs h b st).take off++List.replicate len z++(blkEs h b st).drop (off+len)))) | _=>h),n)
 | .rngS s x=>(.optr s n 0 0,h.set s (some (n,.iter (strOf (ρ x)) 0)),n+1)
 | .nxtS x=>match ρ x with
   | .optr b s _ _=>(match iterAt h b s with
    | some (t,pos)=>if pos < t.size then (.tup [.v (.bool true),.v (.int .i64 pos),.v (.int .i32 (Utf8.decode t pos).1)],h.set b (some (s,.iter t (pos+(Utf8.decode t pos).2))),n) else (.tup [.v (.bool false)],h,n)
    | none=>(.dead,h,n))
   | _=>(.dead,h,n)
 | .bts x=>(.v (.string (txtOf ((bytesOf ((elems h (ρ x)).getD [])).getD []))),h,n)
 | .apz s sz _ z x y=>match ρ x with
   | .own b st _ off len _=>(.own s n sz 0 (len+(intOf' (ρ y)).toNat) none,h.set s (some (n,.cells (((blkEs h b st).drop off).take len++List.replicate (intOf' (ρ y)).toNat z))),n+1)
   | _=>(.dead,h,n)
 | .ovl x y=>(.v (.bool false),h,n)
 | _=>(.dead,h,n)
def slotIs (h:List Slot) (b s:Nat):Prop:=match h[b]? with | some (some (s',.cells _))=>s'=s | _=>False
def isInt:PV→Prop | .v (.int _ _)=>True | _=>False
def isStr:PV→Prop | .v (.string _)=>True | _=>False
def bndOk (ρ:Opd→PV):Option Opd→Prop | none=>True | some x=>isInt (ρ x)
def opOk (ρ:Opd→PV) (h:List Slot) (n:Nat):IOp→Prop
 | .mov _=>True
 | .alloc s z=>s < h.length∧z.stor=true∧0 < z.cells.length
 | .box s sz x=>s < h.length∧(ρ x).stor=true∧0 < sz∧(ρ x).cells.length=sz
 | .bld z ps=>(fillV ρ z ps).isSome=true
 | .bsl sz z len ps=>0 < sz∧len * sz≤16777216∧z.cells.length=sz∧z.stor=true∧∀ p ∈ ps,(ρ p.2).cells.length=sz∧(ρ p.2).stor=true∧p.1 < len
 | .load g m a=>match ρ a with | .optr b s i off=>slotIs h b s∧i < (blkEs h b s).length∧(ldv g m (rowAt h b s i) off).isSome=true | .sptr cs=>(ldv g m (.agg cs) 0).isSome=true | _=>False
 | .store m a x=>match ρ a with | .optr b s i off=>slotIs h b s∧i < (blkEs h b s).length∧(ρ x).stor=true∧(stv (rowAt h b s i) off m (ρ x)).isSome=true | _=>False
 | .nilc x=>match ρ x with | .optr .. | .sptr _ | .clo ..=>True | _=>False
 | .bin op x y=>(binV op (ρ x) (ρ y)).isSome=true
 | .binB _ x y=>match ρ x,ρ y with | .v (.bool _),.v (.bool _)=>True | _,_=>False
 | .eqA _ sz plan x y=>match ρ x,ρ y with | .agg cs,.agg ds=>(eqVs sz plan cs ds).isSome=true | _,_=>False
 | .un op x=>(unV op (ρ x)).isSome=true
 | .conv _ x=>isInt (ρ x)
 | .convS x=>isStr (ρ x)
 | .fn ..=>True
 | .mksl s sz bytes z l c=>isInt (ρ l)∧isInt (ρ c)∧s < h.length∧0 < sz∧z.cells.length=sz∧z.stor=true∧0≤intOf' (ρ l)∧intOf' (ρ l)≤intOf' (ρ c)∧intOf' (ρ c) * bytes≤70368744177664∧intOf' (ρ c)≤70368744177664
 | .slc sz x lo hi mx=>bndOk ρ lo∧bndOk ρ hi∧bndOk ρ mx∧match ρ x with
   | .sl _ es=>(∀ e ∈ es,e.cells.length=sz)∧0≤bndV ρ 0 lo∧bndV ρ 0 lo≤bndV ρ es.length hi∧bndV ρ es.length hi≤bndV ρ es.length mx∧bndV ρ es.length mx≤es.length
   | .own b s sz' off len cap=>sz'=sz∧0≤bndV ρ 0 lo∧bndV ρ 0 lo≤bndV ρ len hi∧bndV ρ len hi≤bndV ρ (slCap h b s off len cap mx:Nat) mx∧bndV ρ (slCap h b s off len cap mx:Nat) mx≤(slCap h b s off len cap mx:Nat)
   | _=>False
 | .slS x lo hi=>isStr (ρ x)∧bndOk ρ lo∧bndOk ρ hi∧0≤bndV ρ 0 lo∧bndV ρ 0 lo≤bndV ρ (strOf (ρ x)).size hi∧bndV ρ (strOf (ρ x)).size hi≤(strOf (ρ x)).size
 | .fad _ x=>match ρ x with | .optr .. | .sptr _=>True | _=>False
 | .fld g off m x=>match ρ x with | .agg cs=>(g=false→m=1)∧(ldv g m (.agg cs) off).isSome=true | _=>False
 | .iad sz x i=>isInt (ρ i)∧0≤intOf' (ρ i)∧match ρ x with
   | .sl _ es=>intOf' (ρ i) < es.length∧(es.getD (intOf' (ρ i)).toNat .dead).cells.length=sz
   | .own _ _ sz' _ len _=>sz'=sz∧intOf' (ρ i) < len
   | _=>False
 | .iaA len _ x i=>isInt (ρ i)∧0≤intOf' (ρ i)∧intOf' (ρ i) < len∧match ρ x with | .optr .. | .sptr _=>True | _=>False
 | .ixA g len sz x i=>isInt (ρ i)∧0≤intOf' (ρ i)∧intOf' (ρ i) < len∧(g=false→sz=1)∧match ρ x with | .agg cs=>(ldv g sz (.agg cs) ((intOf' (ρ i)).toNat * sz)).isSome=true | _=>False
 | .ixS x i=>isStr (ρ x)∧isInt (ρ i)∧0≤intOf' (ρ i)∧intOf' (ρ i) < (strOf (ρ x)).size
 | .ext x i=>match ρ x with | .tup cs=>i < cs.length | _=>False
 | .len x=>match ρ x with | .sl .. | .own ..=>True | _=>False
 | .lenS x=>isStr (ρ x)
 | .mm mx xs=>(mmV mx (xs.map ρ)).isSome=true
 | .cpy sz x y=>match ρ x with
   | .own b st sz' off len _=>sz'=sz∧slotIs h b st∧off+len≤(blkEs h b st).length∧(elems h (ρ y)).isSome=true∧∀ e ∈ (elems h (ρ y)).getD [],e.cells.length=sz
   | .sl _ []=>(elems h (ρ y)).isSome=true
   | _=>False
 | .mkm s=>s < h.length
 | .lkp _ k _ x key=>match ρ x with | .mp b s=>mapIs h b s∧(mFind k (ρ key) (mapPs h b s) 0).isSome=true | _=>False
 | .mup k x key _=>match ρ x with | .mp b s=>mapIs h b s∧(mFind k (ρ key) (mapPs h b s) 0).isSome=true | _=>False
 | .del k x key=>match ρ x with | .mp b s=>mapIs h b s∧(mFind k (ρ key) (mapPs h b s) 0).isSome=true | _=>False
 | .lenM x=>match ρ x with | .mp b s=>mapIs h b s | _=>False
 | .clr sz z x=>z.cells.length=sz∧z.stor=true∧match ρ x with
   | .own b st sz' off len _=>sz'=sz∧slotIs h b st∧off+len≤(blkEs h b st).length
   | .sl _ []=>True
   | _=>False
 | .rngS s x=>isStr (ρ x)∧s < h.length
 | .nxtS x=>match ρ x with | .optr b s 0 0=>(iterAt h b s).isSome=true | _=>False
 | .bts x=>(elems h (ρ x)).isSome=true∧(bytesOf ((elems h (ρ x)).getD [])).isSome=true
 | .apz s sz bytes z x y=>isInt (ρ y)∧s < h.length∧0 < sz∧z.cells.length=sz∧z.stor=true∧0≤intOf' (ρ y)∧match ρ x with
   | .own b st sz' off len (some c)=>sz'=sz∧c < len+(intOf' (ρ y)).toNat∧(len+(intOf' (ρ y)).toNat) * bytes≤70368744177664∧len+(intOf' (ρ y)).toNat≤70368744177664∧slotIs h b st∧off+len≤(blkEs h b st).length
   | _=>False
 | .ovl x y=>match ρ x,ρ y with
   | .sl _ (_::_),.own b st _ _ _ _=>slotIs h b st
   | _,_=>False
 | _=>False
variable {ρ:Opd→PV} {h:List Slot} {n:Nat} {K:PV→List Slot→Nat→Prop}
theorem slotIs_spec {b s:Nat} (hs:slotIs h b s):h[b]?=some (some (s,.cells (blkEs h b s))):=by
 unfold slotIs at hs
 split at hs
 ·rename_i s' es heq
  subst hs
  simp [blkEs,heq]
 ·exact hs.elim
theorem mapIs_spec {b s:Nat} (hs:mapIs h b s):h[b]?=some (some (s,.map (mapPs h b s))):=by
 unfold mapIs at hs
 split at hs
 ·rename_i s' es heq
  subst hs
  simp [mapPs,heq]
 ·exact hs.elim
theorem isInt_spec {p:PV} (h:isInt p):∃ k,p=.v (.int k (intOf' p)):=by
 unfold isInt at h
 split at h
 ·exact ⟨_,rfl⟩
 ·exact h.elim
theorem isStr_spec {p:PV} (h:isStr p):p=.v (.string (strOf p)):=by
 unfold isStr at h
 split at h
 ·rfl
 ·exact h.elim
theorem bndOk_spec {x:Option Opd} (d:Int) (h:bndOk ρ x):bnd ρ d x=some (bndV ρ d x):=by
 cases x with
 | none=>rfl
 | some x =>
  obtain ⟨k,hk⟩:=isInt_spec h
  simp only [bnd,bndV]
  rw [hk]
  rfl
theorem getD_of_isSome {α:Type} {o:Option α} {d:α} (h:o.isSome=true):o=some (o.getD d):=by cases o<;>simp at h ⊢
theorem opK_of {op:IOp} (hok:opOk ρ h n op) (hK:K (opRes ρ h n op).1 (opRes ρ h n op).2.1 (opRes ρ h n op).2.2):opK ρ h n K op:=by
 cases op with
 | mov x=>exact hK
 | alloc s z=>exact ⟨hok.1,hok.2.1,hok.2.2,hK⟩
 | box s sz x=>exact ⟨hok.1,hok.2.1,hok.2.2.1,hok.2.2.2,hK⟩
 | bld z ps =>
  simp only [opK]
  rw [getD_of_isSome (d:=[]) hok]
  exact hK
 | bsl sz z len ps=>exact ⟨hok.1,hok.2.1,hok.2.2.1,hok.2.2.2.1,hok.2.2.2.2,hK⟩
 | load g m a =>
  simp only [opOk] at hok
  simp only [opRes] at hK
  simp only [opK]
  split at hok
  ·rename_i b s i off hev
   simp only [hev] at hK ⊢
   obtain ⟨h1,h2,h3⟩:=hok
   exact ⟨_,_,_,slotIs_spec h1,by rw [List.getElem?_eq_getElem h2]; simp only [rowAt,List.getD_eq_getElem?_getD,List.getElem?_eq_getElem h2,Option.getD_some],getD_of_isSome h3,hK⟩
  ·rename_i cs hev
   simp only [hev] at hK ⊢
   exact ⟨_,getD_of_isSome hok,hK⟩
  ·exact hok.elim
 | store m a x =>
  simp only [opOk] at hok
  simp only [opRes] at hK
  simp only [opK]
  split at hok
  ·rename_i b s i off hev
   simp only [hev] at hK ⊢
   obtain ⟨h1,h2,h3,h4⟩:=hok
   exact ⟨_,_,_,slotIs_spec h1,by rw [List.getElem?_eq_getElem h2]; simp only [rowAt,List.getD_eq_getElem?_getD,List.getElem?_eq_getElem h2,Option.getD_some],h3,getD_of_isSome h4,hK⟩
  ·exact hok.elim
 | nilc x =>
  simp only [opOk] at hok
  simp only [opRes] at hK
  simp only [opK]
  split at hok<;>first
   | exact hok.elim
   | (rename_i hev; simp only [hev] at hK ⊢; exact hK)
 | bin op x y =>
  simp only [opK]
  rw [getD_of_isSome (d:=undef) hok]
  exact hK
 | binB g x y =>
  simp only [opOk] at hok
  simp only [opRes] at hK
  simp only [opK]
  split at hok
  ·rename_i h1 h2; simp only [h1,h2] at hK ⊢; exact hK
  ·exact hok.elim
 | eqA g sz pl x y =>
  simp only [opOk] at hok
  simp only [opRes] at hK
  simp only [opK]
  split at hok
  ·rename_i h1 h2
   simp only [h1,h2] at hK ⊢
   rw [getD_of_isSome (d:=false) hok]
   exact hK
  ·exact hok.elim
 | un op x =>
  simp only [opK]
  rw [getD_of_isSome (d:=undef) hok]
  exact hK
 | conv k x =>
  obtain ⟨k',hk⟩:=isInt_spec hok
  simp only [opRes] at hK
  simp only [opK]
  rw [hk]
  exact hK
 | convS x =>
  have hk:=isStr_spec hok
  simp only [opRes] at hK
  simp only [opK]
  rw [hk]
  rw [hk] at hK
  exact hK
 | fn f fs cs=>exact hK
 | mksl s sz b z l c =>
  obtain ⟨h1,h2,h3,h4,h5,h6,h7,h8,h9,h10⟩:=hok
  obtain ⟨k1,e1⟩:=isInt_spec h1
  obtain ⟨k2,e2⟩:=isInt_spec h2
  simp only [opK]
  rw [e1,e2]
  exact ⟨h3,h4,h5,h6,h7,h8,h9,h10,hK⟩
 | slc sz x lo hi mx =>
  obtain ⟨h1,h2,h3,hok⟩:=hok
  simp only [opRes] at hK
  simp only [opK]
  split at hok
  ·rename_i c es hev
   simp only [hev] at hK ⊢
   rw [bndOk_spec _ h1,bndOk_spec _ h2,bndOk_spec _ h3]
   obtain ⟨g1,g2,g3,g4,g5⟩:=hok
   exact ⟨g1,g2,g3,g4,g5,hK⟩
  ·rename_i b s sz' off len cap hev
   simp only [hev] at hK ⊢
   obtain ⟨g1,g2,g3,g4,g5⟩:=hok
   refine ⟨g1,?_⟩
   rw [bndOk_spec _ h1,bndOk_spec _ h2]
   cases mx with
   | none=>exact ⟨g2,g3,g4,hK⟩
   | some m =>
    obtain ⟨k,hk⟩:=isInt_spec h3
    simp only
    rw [hk]
    exact ⟨g2,g3,g4,g5,hK⟩
  ·exact hok.elim
 | slS x lo hi =>
  obtain ⟨h1,h2,h3,g2,g3,g4⟩:=hok
  have hk:=isStr_spec h1
  simp only [opRes] at hK
  simp only [opK]
  rw [hk]
  simp only
  rw [bndOk_spec _ h2,bndOk_spec _ h3]
  exact ⟨g2,g3,g4,hK⟩
 | fad off x =>
  simp only [opOk] at hok
  simp only [opRes] at hK
  simp only [opK]
  split at hok<;>first
   | exact hok.elim
   | (rename_i hev; simp only [hev] at hK ⊢; exact hK)
 | fld g off m x =>
  simp only [opOk] at hok
  simp only [opRes] at hK
  simp only [opK]
  split at hok
  ·rename_i cs hev
   simp only [hev] at hK ⊢
   exact ⟨hok.1,_,getD_of_isSome hok.2,hK⟩
  ·exact hok.elim
 | iad sz x i =>
  obtain ⟨h1,h2,hok⟩:=hok
  obtain ⟨k,hk⟩:=isInt_spec h1
  simp only [opRes] at hK
  simp only [opK]
  split at hok
  ·rename_i c es hev
   simp only [hev] at hK ⊢
   rw [hk]
   have hlt:(intOf' (ρ i)).toNat < es.length:=by have:=hok.1; omega
   refine ⟨h2,es.getD (intOf' (ρ i)).toNat .dead,?_,hok.2,hK⟩
   rw [List.getElem?_eq_getElem hlt,List.getD_eq_getElem?_getD,List.getElem?_eq_getElem hlt]; rfl
  ·rename_i b s sz' off len cap hev
   simp only [hev] at hK ⊢
   rw [hk]
   exact ⟨hok.1,h2,hok.2,hK⟩
  ·exact hok.elim
 | iaA len sz x i =>
  obtain ⟨h1,h2,h3,hok⟩:=hok
  obtain ⟨k,hk⟩:=isInt_spec h1
  simp only [opRes] at hK
  simp only [opK]
  split at hok<;>first
   | exact hok.elim
   | (rename_i hev; simp only [hev] at hK ⊢; rw [hk]; exact ⟨h2,h3,hK⟩)
 | ixA g len sz x i =>
  obtain ⟨h1,h2,h3,h4,hok⟩:=hok
  obtain ⟨k,hk⟩:=isInt_spec h1
  simp only [opRes] at hK
  simp only [opK]
  split at hok
  ·rename_i hev
   simp only [hev] at hK ⊢
   rw [hk]
   exact ⟨h2,h3,h4,_,getD_of_isSome hok,hK⟩
  ·exact hok.elim
 | ixS x i =>
  obtain ⟨h1,h2,h3,h4⟩:=hok
  obtain ⟨k,hk⟩:=isInt_spec h2
  have hs:=isStr_spec h1
  simp only [opRes] at hK
  simp only [opK]
  rw [hk,hs]
  have hlt:(intOf' (ρ i)).toNat < (strOf (ρ x)).size:=by omega
  refine ⟨h3,(strOf (ρ x))[(intOf' (ρ i)).toNat]?.getD 0,?_,hK⟩
  show (strOf (ρ x))[(intOf' (ρ i)).toNat]?=_
  rw [getElem?_pos (strOf (ρ x)) _ hlt]; rfl
 | ext x i =>
  simp only [opOk] at hok
  simp only [opRes] at hK
  simp only [opK]
  split at hok
  ·rename_i cs hev
   simp only [hev] at hK ⊢
   exact ⟨_,by rw [List.getElem?_eq_getElem hok,List.getD_eq_getElem?_getD,List.getElem?_eq_getElem hok]; rfl,hK⟩
  ·exact hok.elim
 | len x =>
  simp only [opOk] at hok
  simp only [opRes] at hK
  simp only [opK]
  split at hok<;>first
   | exact hok.elim
   | (rename_i hev; simp only [hev] at hK ⊢; exact hK)
 | lenS x =>
  have hk:=isStr_spec hok
  simp only [opRes] at hK
  simp only [opK]
  rw [hk]
  exact hK
 | mm mx xs =>
  simp only [opK]
  rw [getD_of_isSome (d:=undef) hok]
  exact hK
 | cpy sz x y =>
  simp only [opOk] at hok
  simp only [opRes] at hK
  simp only [opK]
  split at hok
  ·rename_i hev
   simp only [hev] at hK ⊢
   obtain ⟨h1,h2,h3,h4,h5⟩:=hok
   exact ⟨h1,_,_,slotIs_spec h2,h3,getD_of_isSome h4,h5,hK⟩
  ·rename_i hev
   simp only [hev] at hK ⊢
   exact ⟨_,getD_of_isSome (d:=[]) hok,hK⟩
  ·exact hok.elim
 | mkm s=>exact ⟨hok,hK⟩
 | lkp o k z x y =>
  simp only [opOk] at hok
  simp only [opRes] at hK
  simp only [opK]
  split at hok
  ·rename_i hev
   simp only [hev] at hK ⊢
   exact ⟨_,_,mapIs_spec hok.1,getD_of_isSome (d:=none) hok.2,hK⟩
  ·exact hok.elim
 | mup k x y z =>
  simp only [opOk] at hok
  simp only [opRes] at hK
  simp only [opK]
  split at hok
  ·rename_i hev
   simp only [hev] at hK ⊢
   exact ⟨_,_,mapIs_spec hok.1,getD_of_isSome (d:=none) hok.2,hK⟩
  ·exact hok.elim
 | del k x y =>
  simp only [opOk] at hok
  simp only [opRes] at hK
  simp only [opK]
  split at hok
  ·rename_i hev
   simp only [hev] at hK ⊢
   exact ⟨_,_,mapIs_spec hok.1,getD_of_isSome (d:=none) hok.2,hK⟩
  ·exact hok.elim
 | lenM x =>
  simp only [opOk] at hok
  simp only [opRes] at hK
  simp only [opK]
  split at hok
  ·rename_i hev
   simp only [hev] at hK ⊢
   exact ⟨_,mapIs_spec hok,hK⟩
  ·exact hok.elim
 | clr sz z x =>
  obtain ⟨h1,h2,hok⟩:=hok
  simp only [opRes] at hK
  simp only [opK]
  refine ⟨h1,h2,?_⟩
  split at hok
  ·rename_i hev
   simp only [hev] at hK ⊢
   exact ⟨hok.1,_,slotIs_spec hok.2.1,hok.2.2,hK⟩
  ·rename_i hev
   simp only [hev] at hK ⊢
   exact hK
  ·exact hok.elim
 | bts x=>exact ⟨_,_,getD_of_isSome hok.1,getD_of_isSome hok.2,hK⟩
 | apz s sz b z x y =>
  obtain ⟨h1,h2,h3,h4,h5,h6,hok⟩:=hok
  obtain ⟨k,hk⟩:=isInt_spec h1
  simp only [opRes] at hK
  simp only [opK]
  split at hok
  ·rename_i b st sz' off len c hev
   simp only [hev] at hK ⊢
   rw [hk]
   obtain ⟨g1,g2,g3,g4,g5,g6⟩:=hok
   exact ⟨h2,h3,g1,h4,h5,h6,g2,g3,g4,_,slotIs_spec g5,g6,hK⟩
  ·exact hok.elim
 | ovl x y =>
  simp only [opOk] at hok
  simp only [opRes] at hK
  simp only [opK]
  split at hok
  ·rename_i hev1 hev2
   simp only [hev1,hev2]
   exact ⟨⟨_,slotIs_spec hok⟩,hK⟩
  ·exact hok.elim
 | rngS s x =>
  obtain ⟨h1,h2⟩:=hok
  have hk:=isStr_spec h1
  simp only [opRes] at hK
  simp only [opK]
  rw [hk]
  exact ⟨h2,hK⟩
 | nxtS x =>
  simp only [opOk] at hok
  simp only [opRes] at hK
  simp only [opK]
  split at hok
  ·rename_i b s hev
   simp only [hev] at hK ⊢
   obtain ⟨⟨t,pos⟩,hp⟩:=Option.isSome_iff_exists.1 hok
   rw [hp] at hK
   simp only at hK
   have hh:h[b]?=some (some (s,.iter t pos)):=by
    unfold iterAt at hp
    split at hp
    ·rename_i s' t' pos' heq
     split at hp
     ·rename_i hs; cases hp; subst hs; exact heq
     ·cases hp
    ·cases hp
   refine ⟨t,pos,hh,?_⟩
   split
   ·rename_i hlt; rw [if_pos hlt] at hK; exact hK
   ·rename_i hlt; rw [if_neg hlt] at hK; exact hK
  ·exact hok.elim
 | _=>exact hok.elim
inductive Itm where
 | ops (d:Bool) (l:List IOper)
 | code (c:ICode)
 | inBlk (id:Nat)
 | inLoop (J:St→Prop)
def popTo (id:Nat):List Itm→Option (List Itm)
 | []=>none
 | .inBlk i::k=>if i=id then some k else popTo id k
 | .ops ..::k=>popTo id k
 | .code ..::k=>popTo id k
 | .inLoop ..::k=>popTo id k
def den (P:Program) (Q:IExit→St→Prop):List Itm→IExit→St→Prop
 | [],e,st=>Q e st
 | .ops d l::k,.normal,st=>opsK P d (den P Q k .normal) l st
 | .ops _ _::k,e,st=>den P Q k e st
 | .code c::k,.normal,st=>icWp P c (den P Q k) st
 | .code _::k,e,st=>den P Q k e st
 | .inBlk id::k,.exit i,st=>if i=id then den P Q k .normal st else den P Q k (.exit i) st
 | .inBlk _::k,e,st=>den P Q k e st
 | .inLoop J::k,.normal,st=>J st
 | .inLoop _::k,e,st=>den P Q k e st
theorem den_exit {P:Program} {Q:IExit→St→Prop} {id:Nat}:∀ {k k':List Itm} {st:St},popTo id k=some k'→den P Q k' .normal st→den P Q k (.exit id) st
 | [],k',st,h,_=>by simp [popTo] at h
 | .ops d l::k,k',st,h,hk=>den_exit (k:=k) (by simpa [popTo] using h) hk
 | .code c::k,k',st,h,hk=>den_exit (k:=k) (by simpa [popTo] using h) hk
 | .inLoop J::k,k',st,h,hk=>den_exit (k:=k) (by simpa [popTo] using h) hk
 | .inBlk i::k,k',st,h,hk=>by
  simp only [popTo] at h
  simp only [den]
  split at h
  ·rename_i hi
   cases h
   rw [if_pos hi.symm]; exact hk
  ·rename_i hi
   rw [if_neg (fun e=>hi e.symm)]
   exact den_exit (k:=k) h hk
theorem den_ret {P:Program} {Q:IExit→St→Prop}:∀ {k:List Itm} {st:St},Q .ret st→den P Q k .ret st
 | [],st,h=>h
 | .ops d l::k,st,h=>den_ret (k:=k) h
 | .code c::k,st,h=>den_ret (k:=k) h
 | .inLoop J::k,st,h=>den_ret (k:=k) h
 | .inBlk i::k,st,h=>den_ret (k:=k) h
abbrev Cont:=List Itm→St→Prop
def owed (c:Prop) (G:Cont) (k:List Itm) (st:St):Prop:=c∧G k st
def branch (b:Bool) (G:Cont) (k1 k2:List Itm) (st1 st2:St):Prop:=(b=true→G k1 st1)∧(b=false→G k2 st2)
def called (P:Program) (d:Bool) (s f:Nat) (args:List PV) (dst:Option Nat) (G:Cont) (k:List Itm) (st:St):Prop:=callK P d st s f args fun p h n=>G k (St.put ⟨st.t,h,n⟩ dst p)
def openOp (op:IOp) (dst:Option Nat) (G:Cont) (k:List Itm) (st:St):Prop:=opK st.ev st.h st.n (fun p h n=>G k (St.put ⟨st.t,h,n⟩ dst p)) op
def looped (P:Program) (b:ICode) (G:Cont) (Q:IExit→St→Prop) (k:List Itm) (st:St):Prop:=icWp P (.loop b) (den P Q k) st
def ended (e:IExit) (Q:IExit→St→Prop) (st:St):Prop:=Q e st
def rest (G:Cont) (k:List Itm) (st:St):Prop:=G k st
def stuckAt (x:PV):Prop:=False
theorem owed_true (G:Cont) (k:List Itm) (st:St):owed True G k st=G k st:=by simp [owed]
theorem owed_of {c:Prop} {G:Cont} {k:List Itm} {st:St} (hc:c) (h:G k st):owed c G k st:=⟨hc,h⟩
theorem branch_true (G:Cont) (k1 k2:List Itm) (st1 st2:St):branch true G k1 k2 st1 st2=G k1 st1:=by simp [branch]
theorem branch_false (G:Cont) (k1 k2:List Itm) (st1 st2:St):branch false G k1 k2 st1 st2=G k2 st2:=by simp [branch]
theorem called_pure {P:Program} {d:Bool} {s f:Nat} {args:List PV} {dst:Option Nat} {G:Cont} {k:List Itm} {st:St} {r:PV} (h:VPure P f args r) (hG:G k (st.put dst r)):called P d s f args dst G k st:=.inl ⟨r,h,hG⟩
def go1 (P:Program) (d:Bool) (dst:Option Nat) (G:Cont) (k:List Itm) (st:St):IOp→Prop
 | .call s f args=>called P d s f (args.map st.ev) dst G k st
 | .callv s x args=>match st.ev x with | .clo f fs cs=>called P d s f (fs++args.map st.ev++cs) dst G k st | p=>stuckAt p
 | .pick c a b=>match st.ev c with | .v (.bool t)=>branch t G k k (st.put dst (st.ev a)) (st.put dst (st.ev b)) | p=>stuckAt p
 | .nilq g x=>openOp (.nilq g x) dst G k st
 | .cap x=>openOp (.cap x) dst G k st
 | .app s sz by' z x y=>openOp (.app s sz by' z x y) dst G k st
 | op=>owed (opOk st.ev st.h st.n op) G k (St.put ⟨st.t,(opRes st.ev st.h st.n op).2.1,(opRes st.ev st.h st.n op).2.2⟩ dst (opRes st.ev st.h st.n op).1)
def go (P:Program) (Q:IExit→St→Prop):Nat→List Itm→St→Prop
 | 0,k,st=>rest (fun k st=>den P Q k .normal st) k st
 | m+1,[],st=>ended .normal Q st
 | m+1,.ops d []::k,st=>go P Q m k st
 | m+1,.ops d (⟨dst,op,none⟩::r)::k,st=>go1 P d dst (go P Q m) (.ops d r::k) st op
 | m+1,.ops d (⟨dst,op,some (g,want)⟩::r)::k,st=>match st.t.getD g .dead with
  | .v (.bool b)=>match want with
   | true=>branch b (go P Q m) (.ops d (⟨dst,op,none⟩::r)::k) (.ops d r::k) st (st.put dst (.v undef))
   | false=>branch b (go P Q m) (.ops d r::k) (.ops d (⟨dst,op,none⟩::r)::k) (st.put dst (.v undef)) st
  | .v _=>go P Q m (.ops d r::k) (st.put dst (.v undef))
  | p=>stuckAt p
 | m+1,.code .skip::k,st=>go P Q m k st
 | m+1,.code (.reg d l)::k,st=>go P Q m (.ops d l::k) st
 | m+1,.code (.dr ..)::k,st=>False
 | m+1,.code (.seq a b)::k,st=>go P Q m (.code a::.code b::k) st
 | m+1,.code (.cond c a b)::k,st=>match st.ev c with
  | .v (.bool t)=>branch t (go P Q m) (.code a::k) (.code b::k) st st
  | p=>stuckAt p
 | m+1,.code (.blk id b)::k,st=>go P Q m (.code b::.inBlk id::k) st
 | m+1,.code (.loop b)::k,st=>looped P b (go P Q m) Q k st
 | m+1,.code (.exit id)::k,st=>match popTo id k with | some k'=>go P Q m k' st | none=>False
 | m+1,.code .ret::k,st=>ended .ret Q st
 | m+1,.code .bad::k,st=>False
 | m+1,.inBlk _::k,st=>go P Q m k st
 | m+1,.inLoop J::k,st=>J st
theorem go1_sound {P:Program} {Q:IExit→St→Prop} {G:Cont} (hG:∀ k st,G k st→den P Q k .normal st) {d:Bool} {dst:Option Nat} {r:List IOper} {k:List Itm} {st:St} {op:IOp} (h:go1 P d dst G (.ops d r::k) st op) :
  opsK P d (den P Q k .normal) (⟨dst,op,none⟩::r) st:=by
 rw [opsK]
 simp only
 have hG':∀ st,G (.ops d r::k) st→opsK P d (den P Q k .normal) r st:=fun st h=>hG _ st h
 cases op with
 | call s f args=>exact callK_mono (K:=fun p h n=>G (.ops d r::k) (St.put ⟨st.t,h,n⟩ dst p)) (fun p h n=>hG' _) h
 | callv s x args =>
  simp only [go1] at h
  simp only [execK]
  cases hev:st.ev x<;>simp only [hev] at h ⊢<;>first | exact h.elim | exact callK_mono (fun p h n=>hG' _) h
 | pick c a b =>
  simp only [go1] at h
  simp only [execK,opK]
  split at h
  ·rename_i t hev
   simp only [hev]
   exact ⟨fun ht=>hG' _ (h.1 ht),fun ht=>hG' _ (h.2 ht)⟩
  ·exact h.elim
 | nilq g x =>
  have h':opK st.ev st.h st.n (fun p h n=>G (.ops d r::k) (St.put ⟨st.t,h,n⟩ dst p)) (.nilq g x):=h
  exact opK_mono (fun p h n=>hG' _) h'
 | cap x =>
  have h':opK st.ev st.h st.n (fun p h n=>G (.ops d r::k) (St.put ⟨st.t,h,n⟩ dst p)) (.cap x):=h
  exact opK_mono (fun p h n=>hG' _) h'
 | app s sz b z x y =>
  have h':opK st.ev st.h st.n (fun p h n=>G (.ops d r::k) (St.put ⟨st.t,h,n⟩ dst p)) (.app s sz b z x y):=h
  exact opK_mono (fun p h n=>hG' _) h'
 | callG s f args=>exact h.1.elim
 | callvG s x args=>exact h.1.elim
 | _=>exact opK_of (K:=fun p h n=>opsK P d (den P Q k .normal) r (St.put ⟨st.t,h,n⟩ dst p)) h.1 (hG' _ h.2)
theorem go_sound {P:Program} {Q:IExit→St→Prop}:∀ (m:Nat) (k:List Itm) (st:St),go P Q m k st→den P Q k .normal st:=by
 intro m
 induction m with
 | zero=>intro k st h; exact h
 | succ m ih =>
  intro k st h
  match k with
  | []=>exact h
  | .ops d []::k=>exact ih k st h
  | .ops d (⟨dst,op,none⟩::r)::k=>exact go1_sound ih h
  | .ops d (⟨dst,op,some (g,want)⟩::r)::k =>
   simp only [go] at h
   show opsK P d (den P Q k .normal) (⟨dst,op,some (g,want)⟩::r) st
   rw [opsK]
   simp only
   have hget:∀ p,st.t.getD g .dead=p→p≠.dead→st.t[g]?=some p:=by
    intro p hp hd
    rw [List.getD_eq_getElem?_getD] at hp
    cases hx:st.t[g]? with
    | none=>rw [hx] at hp; exact absurd hp.symm hd
    | some q=>rw [hx] at hp; simp at hp; rw [hp]
   split at h
   ·rename_i b hb
    rw [hget _ hb (by simp)]
    simp only
    cases want with
    | true=>exact ⟨fun hb=>ih _ _ (h.1 hb),fun hb=>ih _ _ (h.2 (by simpa using hb))⟩
    | false=>exact ⟨fun hb=>ih _ _ (h.2 hb),fun hb=>ih _ _ (h.1 (by simpa using hb))⟩
   ·rename_i u hne hb
    rw [hget _ hb (by simp)]
    have:=ih _ _ h
    split
    ·rename_i b hb2; cases hb2; exact absurd rfl (hne _)
    ·exact this
    ·rename_i hb2; cases hb2
    ·rename_i h1 h2 h3; exact absurd rfl (h2 u)
   ·exact h.elim
  | .code .skip::k=>exact ih k st h
  | .code (.reg d l)::k=>exact ih (.ops d l::k) st h
  | .code (.dr un ops)::k=>exact h.elim
  | .code (.seq a b)::k =>
   have:=ih (.code a::.code b::k) st h
   refine icWp_mono (Q:=den P Q (.code b::k)) (ic:=a) (fun e st h=>?_) this
   cases e<;>exact h
  | .code (.cond c a b)::k =>
   simp only [go] at h
   show icWp P (.cond c a b) (den P Q k) st
   simp only [icWp]
   split at h
   ·rename_i t hev
    simp only [hev]
    exact ⟨fun ht=>ih _ _ (h.1 ht),fun ht=>ih _ _ (h.2 ht)⟩
   ·exact h.elim
  | .code (.blk id b)::k =>
   have:=ih (.code b::.inBlk id::k) st h
   refine icWp_mono (Q:=den P Q (.inBlk id::k)) (ic:=b) (fun e st h=>?_) this
   cases e<;>exact h
  | .code (.loop b)::k=>exact h
  | .code (.exit id)::k =>
   simp only [go] at h
   split at h
   ·rename_i k' hk; exact den_exit (k:=k) hk (ih k' st h)
   ·exact h.elim
  | .code .ret::k=>exact den_ret (k:=k) h
  | .code .bad::k=>exact h.elim
  | .inBlk _::k=>exact ih k st h
  | .inLoop J::k=>exact h
def again (I:Nat→St→Prop) (n:Nat) (st:St):Prop:=∃ m,m < n∧∃ st1,Weak st st1∧I m st1
theorem again_of {I:Nat→St→Prop} {n:Nat} {st st1:St} (m:Nat) (hm:m < n) (hw:Weak st st1) (h:I m st1):again I n st:=⟨m,hm,st1,hw,h⟩
theorem looped_of {P:Program} {b:ICode} {G:Cont} {Q:IExit→St→Prop} {k:List Itm} {st:St} (I:Nat→St→Prop) (n:Nat) {st0:St} (hw:Weak st st0) (h0:I n st0) (fuel:Nat)
  (round:∀ n st,I n st→go P Q fuel (.code b::.inLoop (again I n)::k) st):looped P b G Q k st:=by
 refine ⟨I,n,⟨st0,hw,h0⟩,fun n st hI=>?_⟩
 refine icWp_mono (fun e st' h=>?_) (go_sound fuel _ st (round n st hI))
 cases e<;>exact h
theorem vpure_go {P:Program} (hm:P.follows .mixedOrders=true) {f:Nat} {fn:Func} {c:Code} {ic:ICode} {ts:List Nat} {args:List PV} {r:PV} {al:List Nat} (nt fuel:Nat)
  (hf:P.funcs[f]?=some fn) (hb:fn.body=some c) (hcl:callable P f=true) (hr:fn.results=(ts.map ResultVar.tmp).toArray) (hnt:fn.ntmps=nt) (hic:cCode P (slotF al 0) c=some ic) (h1:closedL args=true) (h2:closed r=true)
  (hK:go P (EndP ts r) fuel [.code ic] (startSt args nt [] (al.length+1))):VPure P f args r:=by
 refine ⟨h1,h2,vcall_of hm hf hb hcl hr hic ?_⟩
 subst hnt
 refine icWp_mono ?_ (go_sound fuel _ _ hK)
 rintro e st ⟨he,st',hw,hres⟩
 exact ⟨he,st',hw,none,.inl rfl,by rw [hres,ren_closed _ r h2]⟩
theorem ended_weak {ts:List Nat} {r:PV} {st st':St} (hw:Weak st st') (h:resV st' ts=r):ended .ret (EndP ts r) st:=⟨.inr rfl,st',hw,h⟩
abbrev vi (n:Int):PV:=.v (.int .i64 n)
abbrev vu (n:Int):PV:=.v (.int .u64 n)
abbrev vb (b:Bool):PV:=.v (.bool b)
abbrev vs (s:ByteArray):PV:=.v (.string s)
end Go.Proofs.Yticljphbbdnomaa.VL
