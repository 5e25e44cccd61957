import Derived.Test.YticljphbbdnomaaW1Vo
namespace Go.Proofs.Yticljphbbdnomaa.VL
open Go
set_option linter.unusedVariables false
set_option linter.unusedSimpArgs false
set_option linter.unusedSectionVars false
variable [Val]
def IOp.opds:IOp→List Opd
 | .mov x | .box _ _ x | .nilc x | .nilq _ x | .un _ x | .conv _ x | .convS x | .fad _ x | .fld _ _ _ x | .ext x _ | .len x | .lenS x | .cap x | .load _ _ x | .lenM x | .clr _ _ x | .bts x | .rngS _ x | .nxtS x=>[x]
 | .pick c a b=>[c,a,b]
 | .alloc .. | .mkm ..=>[]
 | .lkp _ _ _ x y | .del _ x y=>[x,y]
 | .mup _ x y z=>[x,y,z]
 | .bad=>[]
 | .bld _ ps=>ps.map (·.2.2)
 | .bsl _ _ _ ps=>ps.map (·.2)
 | .apz _ _ _ _ x y | .ovl x y | .eqA _ _ _ x y | .store _ x y | .bin _ x y | .binB _ x y | .mksl _ _ _ _ x y | .iad _ x y | .iaA _ _ x y | .ixA _ _ _ x y | .ixS x y | .app _ _ _ _ x y | .cpy _ x y=>[x,y]
 | .fn _ fs cs=>fs++cs
 | .slc _ x lo hi mx=>x::(lo.toList++hi.toList++mx.toList)
 | .slS x lo hi=>x::(lo.toList++hi.toList)
 | .mm _ xs=>xs
 | .call _ _ args=>args
 | .callv _ x args=>x::args
 | .callG _ _ args=>args
 | .callvG _ x args=>x::args
def IOp.cls:IOp→Nat
 | .slc _ _ _ (some _) _=>1
 | .load .. | .lkp .. | .lenM .. | .bts .. | .ovl ..=>1
 | .apz .. | .alloc .. | .box .. | .store .. | .mksl .. | .app .. | .cpy .. | .mkm .. | .mup .. | .del .. | .clr .. | .rngS .. | .nxtS .. | .callG .. | .callvG ..=>2
 | .nilq .. | .cap .. | .bad=>3
 | _=>0
def rawK (P:Program) (ρ:Opd→PV) (h:List Slot) (n:Nat) (K:PV→List Slot→Nat→Prop):IOp→Prop
 | .call _ f args=>∃ r,VPure P f (args.map ρ) r∧K r h n
 | .callv _ x args=>match ρ x with | .clo f fs cs=>∃ r,VPure P f (fs++args.map ρ++cs) r∧K r h n | _=>False
 | .callG _ f args=>∃ r h' n',GCall P f (args.map ρ) h n r h' n'∧K r h' n'
 | .callvG _ x args=>match ρ x with | .clo f fs cs=>∃ r h' n',GCall P f (fs++args.map ρ++cs) h n r h' n'∧K r h' n' | _=>False
 | op=>opK ρ h n K op
theorem execK_raw {P:Program} {io:IOper} {st:St} {K:St→Prop}:execK P true io st K ↔ rawK P st.ev st.h st.n (fun p h n=>K (St.put ⟨st.t,h,n⟩ io.dst p)) io.op:=by
 have e:∀ {s f:Nat} {args:List PV} {K:PV→List Slot→Nat→Prop},callK P true st s f args K ↔ ∃ r,VPure P f args r∧K r st.h st.n:=by
  intro s f args K
  simp [callK]
 unfold execK
 split
 ·rename_i s f args hop
  rw [hop,e]; exact Iff.rfl
 ·rename_i s x args hop
  rw [hop]
  simp only [rawK]
  cases hev:st.ev x<;>simp only [e]
 ·rename_i hop; rw [hop]; exact Iff.rfl
 ·rename_i hop; rw [hop]; exact Iff.rfl
 ·rename_i h1 h2 h3 h4
  unfold rawK
  split
  ·rename_i hop; exact absurd hop (h1 _ _ _)
  ·rename_i hop; exact absurd hop (h2 _ _ _)
  ·rename_i hop; exact absurd hop (h3 _ _ _)
  ·rename_i hop; exact absurd hop (h4 _ _ _)
  ·exact Iff.rfl
theorem fillV_congr {ρ ρ2:Opd→PV}:∀ (ps:List (Nat×Nat×Opd)) (cs:List PV),(∀ x ∈ ps.map (·.2.2),ρ x=ρ2 x)→fillV ρ cs ps=fillV ρ2 cs ps
 | [],cs,_=>rfl
 | p::ps,cs,h=>by
  have h1:=h p.2.2 (by simp)
  obtain ⟨off,m,x⟩:=p
  simp only at h1
  simp only [fillV,h1]
  split
  ·exact fillV_congr ps _ fun x hx=>h x (by simp at hx ⊢; exact .inr hx)
  ·rfl
theorem partsV_congr {ρ ρ2:Opd→PV}:∀ (ps:List (Nat×Opd)) (z:PV) (i:Nat),(∀ x ∈ ps.map (·.2),ρ x=ρ2 x)→partsV ρ z i ps=partsV ρ2 z i ps
 | [],z,i,_=>rfl
 | p::ps,z,i,h=>by
  have h1:=h p.2 (by simp)
  simp only [partsV,h1]
  exact partsV_congr ps _ i fun x hx=>h x (by simp at hx ⊢; exact .inr hx)
theorem bnd_congr {ρ ρ2:Opd→PV} {x:Option Opd} (d:Int) (h:∀ y ∈ x.toList,ρ y=ρ2 y):bnd ρ d x=bnd ρ2 d x:=by
 cases x with
 | none=>rfl
 | some x=>simp only [bnd,h x (by simp)]
theorem opK_congr {ρ ρ2:Opd→PV} {h:List Slot} {n:Nat} {K:PV→List Slot→Nat→Prop} {op:IOp} (hρ:∀ x ∈ op.opds,ρ x=ρ2 x):opK ρ h n K op=opK ρ2 h n K op:=by
 cases op with
 | bld z ps=>simp only [opK,fillV_congr ps z hρ]
 | bsl sz z len ps =>
  have h1:(∀ p ∈ ps,(ρ p.2).cells.length=sz∧(ρ p.2).stor=true∧p.1 < len) ↔ (∀ p ∈ ps,(ρ2 p.2).cells.length=sz∧(ρ2 p.2).stor=true∧p.1 < len):=by
   have e:∀ p ∈ ps,ρ p.2=ρ2 p.2:=fun p hp=>hρ p.2 (by simp only [IOp.opds,List.mem_map]; exact ⟨p,hp,rfl⟩)
   constructor
   ·intro h p hp; rw [← e p hp]; exact h p hp
   ·intro h p hp; rw [e p hp]; exact h p hp
  simp only [opK,h1,fun i=>partsV_congr ps z i hρ]
 | fn f fs cs =>
  have e1:fs.map ρ=fs.map ρ2:=List.map_congr_left fun x hx=>hρ x (by simp [IOp.opds,hx])
  have e2:cs.map ρ=cs.map ρ2:=List.map_congr_left fun x hx=>hρ x (by simp [IOp.opds,hx])
  simp only [opK,e1,e2]
 | mm mx xs =>
  have e1:xs.map ρ=xs.map ρ2:=List.map_congr_left fun x hx=>hρ x hx
  simp only [opK,e1]
 | slc sz x lo hi mx =>
  have e0:=hρ x (by simp [IOp.opds])
  have e1:=fun d=>bnd_congr (ρ:=ρ) (ρ2:=ρ2) (x:=lo) d fun y hy=>hρ y (by simp only [IOp.opds,List.mem_cons,List.mem_append]; exact .inr (.inl (.inl hy)))
  have e2:=fun d=>bnd_congr (ρ:=ρ) (ρ2:=ρ2) (x:=hi) d fun y hy=>hρ y (by simp only [IOp.opds,List.mem_cons,List.mem_append]; exact .inr (.inl (.inr hy)))
  have e3:=fun d=>bnd_congr (ρ:=ρ) (ρ2:=ρ2) (x:=mx) d fun y hy=>hρ y (by simp only [IOp.opds,List.mem_cons,List.mem_append]; exact .inr (.inr hy))
  cases mx with
  | none =>
   simp only [opK,e0,e1,e2,e3]
   cases ρ2 x with
   | own b s sz' off len cap =>
    simp only
    congr 1
    generalize bnd ρ2 0 lo=y1
    generalize bnd ρ2 _ hi=y2
    cases y1<;>cases y2<;>rfl
   | _=>rfl
  | some m =>
   have e4:=hρ m (by simp [IOp.opds])
   simp only [opK,e0,e1,e2,e3]
   cases ρ2 x with
   | own b s sz' off len cap =>
    simp only
    congr 1
    generalize bnd ρ2 0 lo=y1
    generalize bnd ρ2 _ hi=y2
    cases y1<;>cases y2<;>simp only [e4]
   | _=>rfl
 | slS x lo hi =>
  have e0:=hρ x (by simp [IOp.opds])
  have e1:=fun d=>bnd_congr (ρ:=ρ) (ρ2:=ρ2) (x:=lo) d fun y hy=>hρ y (by simp only [IOp.opds,List.mem_cons,List.mem_append]; exact .inr (.inl hy))
  have e2:=fun d=>bnd_congr (ρ:=ρ) (ρ2:=ρ2) (x:=hi) d fun y hy=>hρ y (by simp only [IOp.opds,List.mem_cons,List.mem_append]; exact .inr (.inr hy))
  simp only [opK,e0,e1,e2]
 | call s f args=>rfl
 | bad=>rfl
 | callv s x args=>rfl
 | callG s f args=>rfl
 | callvG s x args=>rfl
 | alloc s z=>rfl
 | mkm s=>rfl
 | lenM x=>have e1:=hρ x (by simp [IOp.opds]); simp only [opK,e1]
 | clr sz z x=>have e1:=hρ x (by simp [IOp.opds]); simp only [opK,e1]
 | bts x=>have e1:=hρ x (by simp [IOp.opds]); simp only [opK,e1]
 | rngS s x=>have e1:=hρ x (by simp [IOp.opds]); simp only [opK,e1]
 | nxtS x=>have e1:=hρ x (by simp [IOp.opds]); simp only [opK,e1]
 | lkp o k z x y=>have e1:=hρ x (by simp [IOp.opds]); have e2:=hρ y (by simp [IOp.opds]); simp only [opK,e1,e2]
 | del k x y=>have e1:=hρ x (by simp [IOp.opds]); have e2:=hρ y (by simp [IOp.opds]); simp only [opK,e1,e2]
 | mup k x y z=>have e1:=hρ x (by simp [IOp.opds]); have e2:=hρ y (by simp [IOp.opds]); have e3:=hρ z (by simp [IOp.opds]); simp only [opK,e1,e2,e3]
 | pick c x y =>
  have e1:=hρ c (by simp [IOp.opds]); have e2:=hρ x (by simp [IOp.opds]); have e3:=hρ y (by simp [IOp.opds])
  simp only [opK,e1,e2,e3]
 | mov x=>have e1:=hρ x (by simp [IOp.opds]); simp only [opK,e1]
 | box s sz x=>have e1:=hρ x (by simp [IOp.opds]); simp only [opK,e1]
 | nilc x=>have e1:=hρ x (by simp [IOp.opds]); simp only [opK,e1]
 | nilq g x=>have e1:=hρ x (by simp [IOp.opds]); simp only [opK,e1]
 | un g x=>have e1:=hρ x (by simp [IOp.opds]); simp only [opK,e1]
 | conv g x=>have e1:=hρ x (by simp [IOp.opds]); simp only [opK,e1]
 | convS x=>have e1:=hρ x (by simp [IOp.opds]); simp only [opK,e1]
 | fad g x=>have e1:=hρ x (by simp [IOp.opds]); simp only [opK,e1]
 | fld g i j x=>have e1:=hρ x (by simp [IOp.opds]); simp only [opK,e1]
 | ext x g=>have e1:=hρ x (by simp [IOp.opds]); simp only [opK,e1]
 | len x=>have e1:=hρ x (by simp [IOp.opds]); simp only [opK,e1]
 | lenS x=>have e1:=hρ x (by simp [IOp.opds]); simp only [opK,e1]
 | cap x=>have e1:=hρ x (by simp [IOp.opds]); simp only [opK,e1]
 | load g m x=>have e1:=hρ x (by simp [IOp.opds]); simp only [opK,e1]
 | store m x y=>have e1:=hρ x (by simp [IOp.opds]); have e2:=hρ y (by simp [IOp.opds]); simp only [opK,e1,e2]
 | bin g x y=>have e1:=hρ x (by simp [IOp.opds]); have e2:=hρ y (by simp [IOp.opds]); simp only [opK,e1,e2]
 | eqA g sz pl x y=>have e1:=hρ x (by simp [IOp.opds]); have e2:=hρ y (by simp [IOp.opds]); simp only [opK,e1,e2]
 | binB g x y=>have e1:=hρ x (by simp [IOp.opds]); have e2:=hρ y (by simp [IOp.opds]); simp only [opK,e1,e2]
 | mksl s i j z x y=>have e1:=hρ x (by simp [IOp.opds]); have e2:=hρ y (by simp [IOp.opds]); simp only [opK,e1,e2]
 | iad g x y=>have e1:=hρ x (by simp [IOp.opds]); have e2:=hρ y (by simp [IOp.opds]); simp only [opK,e1,e2]
 | iaA g i x y=>have e1:=hρ x (by simp [IOp.opds]); have e2:=hρ y (by simp [IOp.opds]); simp only [opK,e1,e2]
 | ixA g i j x y=>have e1:=hρ x (by simp [IOp.opds]); have e2:=hρ y (by simp [IOp.opds]); simp only [opK,e1,e2]
 | ixS x y=>have e1:=hρ x (by simp [IOp.opds]); have e2:=hρ y (by simp [IOp.opds]); simp only [opK,e1,e2]
 | app s i j z x y=>have e1:=hρ x (by simp [IOp.opds]); have e2:=hρ y (by simp [IOp.opds]); simp only [opK,e1,e2]
 | cpy i x y=>have e1:=hρ x (by simp [IOp.opds]); have e2:=hρ y (by simp [IOp.opds]); simp only [opK,e1,e2]
 | apz s i j z x y=>have e1:=hρ x (by simp [IOp.opds]); have e2:=hρ y (by simp [IOp.opds]); simp only [opK,e1,e2]
 | ovl x y=>have e1:=hρ x (by simp [IOp.opds]); have e2:=hρ y (by simp [IOp.opds]); simp only [opK,e1,e2]
theorem rawK_congr {P:Program} {ρ ρ2:Opd→PV} {h:List Slot} {n:Nat} {K:PV→List Slot→Nat→Prop} {op:IOp} (hρ:∀ x ∈ op.opds,ρ x=ρ2 x):rawK P ρ h n K op=rawK P ρ2 h n K op:=by
 unfold rawK
 split
 ·rename_i s f args
  have e1:args.map ρ=args.map ρ2:=List.map_congr_left fun x hx=>hρ x hx
  rw [e1]
 ·rename_i s x args
  have e1:args.map ρ=args.map ρ2:=List.map_congr_left fun y hy=>hρ y (by simp [IOp.opds,hy])
  rw [e1,hρ x (by simp [IOp.opds])]
 ·rename_i s f args
  have e1:args.map ρ=args.map ρ2:=List.map_congr_left fun x hx=>hρ x hx
  rw [e1]
 ·rename_i s x args
  have e1:args.map ρ=args.map ρ2:=List.map_congr_left fun y hy=>hρ y (by simp [IOp.opds,hy])
  rw [e1,hρ x (by simp [IOp.opds])]
 ·exact opK_congr hρ
theorem rawK_det {P:Program} {ρ:Opd→PV} {h:List Slot} {n:Nat} {K:PV→List Slot→Nat→Prop} {op:IOp} (hc:op.cls≤2) (hK:rawK P ρ h n K op) :
  ∃ p h' n',K p h' n'∧(∀ K',K' p h' n'→rawK P ρ h n K' op)∧(op.cls≤1→h'=h∧n'=n)∧(op.cls=0→∀ h2 n2 K',K' p h2 n2→rawK P ρ h2 n2 K' op):=by
 have zero:∀ {p:PV} (op:IOp),op.cls=0→K p h n→(∀ h2 n2 K',K' p h2 n2→rawK P ρ h2 n2 K' op) →
   ∃ p h' n',K p h' n'∧(∀ K',K' p h' n'→rawK P ρ h n K' op)∧(op.cls≤1→h'=h∧n'=n)∧(op.cls=0→∀ h2 n2 K',K' p h2 n2→rawK P ρ h2 n2 K' op) :=
  fun op h0 h1 h2=>⟨_,h,n,h1,fun K' hk=>h2 h n K' hk,fun _=>⟨rfl,rfl⟩,fun _=>h2⟩
 have two:∀ {p:PV} {h':List Slot} {n':Nat} (op:IOp),op.cls=2→K p h' n'→(∀ K',K' p h' n'→rawK P ρ h n K' op) →
   ∃ p h' n',K p h' n'∧(∀ K',K' p h' n'→rawK P ρ h n K' op)∧(op.cls≤1→h'=h∧n'=n)∧(op.cls=0→∀ h2 n2 K',K' p h2 n2→rawK P ρ h2 n2 K' op) :=
  fun op h0 h1 h2=>⟨_,_,_,h1,h2,fun h=>by omega,fun h=>by omega⟩
 cases op with
 | bad=>exact hK.elim
 | call s f args =>
  obtain ⟨r,h1,h2⟩:=hK
  exact zero _ rfl h2 fun h2 n2 K' hk=>⟨r,h1,hk⟩
 | callv s x args =>
  simp only [rawK] at hK ⊢
  split at hK
  ·obtain ⟨r,h1,h2⟩:=hK
   exact ⟨r,h,n,h2,fun K' hk=>⟨r,h1,hk⟩,fun _=>⟨rfl,rfl⟩,fun _ h2 n2 K' hk=>⟨r,h1,hk⟩⟩
  ·exact hK.elim
 | callG s f args =>
  obtain ⟨r,h',n',h1,h2⟩:=hK
  exact two _ rfl h2 fun K' hk=>⟨r,h',n',h1,hk⟩
 | callvG s x args =>
  simp only [rawK] at hK ⊢
  split at hK
  ·obtain ⟨r,h',n',h1,h2⟩:=hK
   exact ⟨r,h',n',h2,fun K' hk=>⟨r,h',n',h1,hk⟩,fun h0=>by simp [IOp.cls] at h0,fun h0=>by simp [IOp.cls] at h0⟩
  ·exact hK.elim
 | mov x=>exact zero _ rfl hK fun h2 n2 K' hk=>hk
 | pick c x y =>
  simp only [rawK,opK] at hK ⊢
  split at hK
  ·rename_i t ht
   cases t with
   | true=>exact ⟨_,h,n,hK.1 rfl,fun K' hk=>⟨fun _=>hk,by simp⟩,fun _=>⟨rfl,rfl⟩,fun _ h2 n2 K' hk=>⟨fun _=>hk,by simp⟩⟩
   | false=>exact ⟨_,h,n,hK.2 rfl,fun K' hk=>⟨by simp,fun _=>hk⟩,fun _=>⟨rfl,rfl⟩,fun _ h2 n2 K' hk=>⟨by simp,fun _=>hk⟩⟩
  ·rename_i z hz
   obtain ⟨g1,g2,g3⟩:=hK
   obtain ⟨t,ht⟩:=sx_bool g1
   cases t with
   | true=>exact ⟨_,h,n,g2 ht,fun K' hk=>⟨g1,fun _=>hk,fun h=>by rw [ht] at h; cases h⟩,fun _=>⟨rfl,rfl⟩,fun _ h2 n2 K' hk=>⟨g1,fun _=>hk,fun h=>by rw [ht] at h; cases h⟩⟩
   | false=>exact ⟨_,h,n,g3 ht,fun K' hk=>⟨g1,(fun h=>by rw [ht] at h; cases h),fun _=>hk⟩,fun _=>⟨rfl,rfl⟩,fun _ h2 n2 K' hk=>⟨g1,(fun h=>by rw [ht] at h; cases h),fun _=>hk⟩⟩
  ·exact hK.elim
 | alloc s z =>
  obtain ⟨h1,h2,h3,h4⟩:=hK
  exact two _ rfl h4 fun K' hk=>⟨h1,h2,h3,hk⟩
 | box s sz x =>
  obtain ⟨h1,h2,h3,h4,h5⟩:=hK
  exact two _ rfl h5 fun K' hk=>⟨h1,h2,h3,h4,hk⟩
 | bld z ps =>
  simp only [rawK,opK] at hK ⊢
  split at hK
  ·exact ⟨_,h,n,hK,fun K' hk=>hk,fun _=>⟨rfl,rfl⟩,fun _ h2 n2 K' hk=>hk⟩
  ·exact hK.elim
 | bsl sz z len ps =>
  obtain ⟨h1,h2,h3,h4,h5,h6⟩:=hK
  exact zero _ rfl h6 fun _ _ K' hk=>⟨h1,h2,h3,h4,h5,hk⟩
 | load g m x =>
  simp only [rawK,opK] at hK ⊢
  split at hK
  ·obtain ⟨es,e,p,h1,h2,h3,h4⟩:=hK
   exact ⟨p,h,n,h4,fun K' hk=>⟨es,e,p,h1,h2,h3,hk⟩,fun _=>⟨rfl,rfl⟩,fun h0=>by simp [IOp.cls] at h0⟩
  ·obtain ⟨p,h3,h4⟩:=hK
   exact ⟨p,h,n,h4,fun K' hk=>⟨p,h3,hk⟩,fun _=>⟨rfl,rfl⟩,fun h0=>by simp [IOp.cls] at h0⟩
  ·exact hK.elim
 | store m x y =>
  simp only [rawK,opK] at hK ⊢
  split at hK
  ·obtain ⟨es,e,e',h1,h2,h3,h4,h5⟩:=hK
   exact ⟨_,_,_,h5,fun K' hk=>⟨es,e,e',h1,h2,h3,h4,hk⟩,fun h0=>by simp [IOp.cls] at h0,fun h0=>by simp [IOp.cls] at h0⟩
  ·exact hK.elim
 | nilc x =>
  simp only [rawK,opK] at hK ⊢
  split at hK<;>first
   | exact hK.elim
   | exact ⟨_,h,n,hK,fun K' hk=>hk,fun _=>⟨rfl,rfl⟩,fun _ h2 n2 K' hk=>hk⟩
 | bin g x y =>
  simp only [rawK,opK] at hK ⊢
  split at hK
  ·exact ⟨_,h,n,hK,fun K' hk=>hk,fun _=>⟨rfl,rfl⟩,fun _ h2 n2 K' hk=>hk⟩
  ·split at hK
   ·exact ⟨_,h,n,hK,fun K' hk=>hk,fun _=>⟨rfl,rfl⟩,fun _ h2 n2 K' hk=>hk⟩
   ·exact hK.elim
 | binB g x y =>
  simp only [rawK,opK] at hK ⊢
  split at hK
  ·exact ⟨_,h,n,hK,fun K' hk=>hk,fun _=>⟨rfl,rfl⟩,fun _ h2 n2 K' hk=>hk⟩
  ·split at hK
   ·exact ⟨_,h,n,hK,fun K' hk=>hk,fun _=>⟨rfl,rfl⟩,fun _ h2 n2 K' hk=>hk⟩
   ·exact hK.elim
 | eqA g sz pl x y =>
  simp only [rawK,opK] at hK ⊢
  split at hK
  ·split at hK
   ·exact ⟨_,h,n,hK,fun K' hk=>hk,fun _=>⟨rfl,rfl⟩,fun _ h2 n2 K' hk=>hk⟩
   ·split at hK
    ·exact ⟨_,h,n,hK,fun K' hk=>hk,fun _=>⟨rfl,rfl⟩,fun _ h2 n2 K' hk=>hk⟩
    ·exact hK.elim
  ·exact hK.elim
 | nilq g x=>simp [IOp.cls] at hc
 | cap x=>simp [IOp.cls] at hc
 | un g x =>
  simp only [rawK,opK] at hK ⊢
  split at hK
  ·exact ⟨_,h,n,hK,fun K' hk=>hk,fun _=>⟨rfl,rfl⟩,fun _ h2 n2 K' hk=>hk⟩
  ·split at hK
   ·obtain ⟨h1,h2⟩:=hK
    exact ⟨_,h,n,h2,fun K' hk=>⟨h1,hk⟩,fun _=>⟨rfl,rfl⟩,fun _ h2 n2 K' hk=>⟨h1,hk⟩⟩
   ·exact hK.elim
 | conv g x =>
  simp only [rawK,opK] at hK ⊢
  split at hK
  ·exact ⟨_,h,n,hK,fun K' hk=>hk,fun _=>⟨rfl,rfl⟩,fun _ h2 n2 K' hk=>hk⟩
  ·obtain ⟨h1,h2⟩:=hK
   exact ⟨_,h,n,h2,fun K' hk=>⟨h1,hk⟩,fun _=>⟨rfl,rfl⟩,fun _ h2 n2 K' hk=>⟨h1,hk⟩⟩
  ·exact hK.elim
 | convS x =>
  simp only [rawK,opK] at hK ⊢
  split at hK
  ·exact ⟨_,h,n,hK,fun K' hk=>hk,fun _=>⟨rfl,rfl⟩,fun _ h2 n2 K' hk=>hk⟩
  ·obtain ⟨h1,h2⟩:=hK
   exact ⟨_,h,n,h2,fun K' hk=>⟨h1,hk⟩,fun _=>⟨rfl,rfl⟩,fun _ h2 n2 K' hk=>⟨h1,hk⟩⟩
  ·exact hK.elim
 | fn f fs cs=>exact zero _ rfl hK fun h2 n2 K' hk=>hk
 | mksl s sz b z x y =>
  simp only [rawK,opK] at hK ⊢
  split at hK
  ·obtain ⟨h1,h2,h3,h4,h5,h6,h7,h8,h9⟩:=hK
   exact ⟨_,_,_,h9,fun K' hk=>⟨h1,h2,h3,h4,h5,h6,h7,h8,hk⟩,fun h0=>by simp [IOp.cls] at h0,fun h0=>by simp [IOp.cls] at h0⟩
  ·exact hK.elim
 | slc sz x lo hi mx =>
  cases hi with
  | some hi =>
   simp only [rawK,opK] at hK ⊢
   split at hK
   ·split at hK
    ·obtain ⟨h1,h2,h3,h4,h5,h6⟩:=hK
     exact ⟨_,h,n,h6,fun K' hk=>⟨h1,h2,h3,h4,h5,hk⟩,fun _=>⟨rfl,rfl⟩,fun h0=>by simp [IOp.cls] at h0⟩
    ·exact hK.elim
   ·obtain ⟨h0,hK⟩:=hK
    split at hK
    ·obtain ⟨h1,h2,h3,h4⟩:=hK
     exact ⟨_,h,n,h4,fun K' hk=>⟨h0,h1,h2,h3,hk⟩,fun _=>⟨rfl,rfl⟩,fun h0=>by simp [IOp.cls] at h0⟩
    ·split at hK
     ·obtain ⟨h1,h2,h3,h4,h5⟩:=hK
      exact ⟨_,h,n,h5,fun K' hk=>⟨h0,h1,h2,h3,h4,hk⟩,fun _=>⟨rfl,rfl⟩,fun h0=>by simp [IOp.cls] at h0⟩
     ·exact hK.elim
    ·exact hK.elim
   ·exact hK.elim
  | none =>
   simp only [rawK,opK] at hK ⊢
   split at hK
   ·split at hK
    ·obtain ⟨h1,h2,h3,h4,h5,h6⟩:=hK
     exact ⟨_,h,n,h6,fun K' hk=>⟨h1,h2,h3,h4,h5,hk⟩,fun _=>⟨rfl,rfl⟩,fun _ h2' n2 K' hk=>⟨h1,h2,h3,h4,h5,hk⟩⟩
    ·exact hK.elim
   ·rename_i b s sz' off len cap _
    obtain ⟨h0,hK⟩:=hK
    split at hK
    ·rename_i l u hl hu
     obtain ⟨h1,h2,h3,h4⟩:=hK
     simp only [bnd,Option.some.injEq] at hu
     subst hu
     refine ⟨_,h,n,h4,fun K' hk=>⟨h0,h1,h2,h3,hk⟩,fun _=>⟨rfl,rfl⟩,fun _ h2' n2 K' hk=>⟨h0,h1,h2,?_,hk⟩⟩
     cases cap with
     | some c=>exact h3
     | none=>simp only [capOf]; omega
    ·split at hK
     ·obtain ⟨h1,h2,h3,h4,h5⟩:=hK
      exact ⟨_,h,n,h5,fun K' hk=>⟨h0,h1,h2,h3,h4,hk⟩,fun _=>⟨rfl,rfl⟩,fun _ h2' n2 K' hk=>⟨h0,h1,h2,h3,h4,hk⟩⟩
     ·exact hK.elim
    ·exact hK.elim
   ·exact hK.elim
 | slS x lo hi =>
  simp only [rawK,opK] at hK ⊢
  split at hK
  ·split at hK
   ·obtain ⟨h1,h2,h3,h4⟩:=hK
    exact ⟨_,h,n,h4,fun K' hk=>⟨h1,h2,h3,hk⟩,fun _=>⟨rfl,rfl⟩,fun _ h2' n2 K' hk=>⟨h1,h2,h3,hk⟩⟩
   ·exact hK.elim
  ·exact hK.elim
 | fad g x =>
  simp only [rawK,opK] at hK ⊢
  split at hK<;>first
   | exact hK.elim
   | exact ⟨_,h,n,hK,fun K' hk=>hk,fun _=>⟨rfl,rfl⟩,fun _ h2 n2 K' hk=>hk⟩
 | fld g i j x =>
  simp only [rawK,opK] at hK ⊢
  split at hK
  ·obtain ⟨h1,p,h2,h3⟩:=hK
   exact ⟨p,h,n,h3,fun K' hk=>⟨h1,p,h2,hk⟩,fun _=>⟨rfl,rfl⟩,fun _ h2' n2 K' hk=>⟨h1,p,h2,hk⟩⟩
  ·exact hK.elim
 | iad g x y =>
  simp only [rawK,opK] at hK ⊢
  split at hK
  ·obtain ⟨h1,e,h2,h3,h4⟩:=hK
   exact ⟨_,h,n,h4,fun K' hk=>⟨h1,e,h2,h3,hk⟩,fun _=>⟨rfl,rfl⟩,fun _ h2' n2 K' hk=>⟨h1,e,h2,h3,hk⟩⟩
  ·obtain ⟨h1,h2,h3,h4⟩:=hK
   exact ⟨_,h,n,h4,fun K' hk=>⟨h1,h2,h3,hk⟩,fun _=>⟨rfl,rfl⟩,fun _ h2' n2 K' hk=>⟨h1,h2,h3,hk⟩⟩
  ·exact hK.elim
 | iaA g i x y =>
  simp only [rawK,opK] at hK ⊢
  split at hK
  ·obtain ⟨h1,h2,h3⟩:=hK
   exact ⟨_,h,n,h3,fun K' hk=>⟨h1,h2,hk⟩,fun _=>⟨rfl,rfl⟩,fun _ h2' n2 K' hk=>⟨h1,h2,hk⟩⟩
  ·obtain ⟨h1,h2,h3⟩:=hK
   exact ⟨_,h,n,h3,fun K' hk=>⟨h1,h2,hk⟩,fun _=>⟨rfl,rfl⟩,fun _ h2' n2 K' hk=>⟨h1,h2,hk⟩⟩
  ·exact hK.elim
 | ixA g i j x y =>
  simp only [rawK,opK] at hK ⊢
  split at hK
  ·obtain ⟨h1,h2,h3,p,h4,h5⟩:=hK
   exact ⟨p,h,n,h5,fun K' hk=>⟨h1,h2,h3,p,h4,hk⟩,fun _=>⟨rfl,rfl⟩,fun _ h2' n2 K' hk=>⟨h1,h2,h3,p,h4,hk⟩⟩
  ·exact hK.elim
 | ixS x y =>
  simp only [rawK,opK] at hK ⊢
  split at hK
  ·obtain ⟨h1,c,h2,h3⟩:=hK
   exact ⟨_,h,n,h3,fun K' hk=>⟨h1,c,h2,hk⟩,fun _=>⟨rfl,rfl⟩,fun _ h2' n2 K' hk=>⟨h1,c,h2,hk⟩⟩
  ·exact hK.elim
 | ext x i =>
  simp only [rawK,opK] at hK ⊢
  split at hK
  ·obtain ⟨c,h1,h2⟩:=hK
   exact ⟨_,h,n,h2,fun K' hk=>⟨c,h1,hk⟩,fun _=>⟨rfl,rfl⟩,fun _ h2' n2 K' hk=>⟨c,h1,hk⟩⟩
  ·exact hK.elim
 | len x =>
  simp only [rawK,opK] at hK ⊢
  split at hK<;>first
   | exact hK.elim
   | exact ⟨_,h,n,hK,fun K' hk=>hk,fun _=>⟨rfl,rfl⟩,fun _ h2 n2 K' hk=>hk⟩
 | lenS x =>
  simp only [rawK,opK] at hK ⊢
  split at hK
  ·exact ⟨_,h,n,hK,fun K' hk=>hk,fun _=>⟨rfl,rfl⟩,fun _ h2 n2 K' hk=>hk⟩
  ·obtain ⟨h1,h2⟩:=hK
   exact ⟨_,h,n,h2,fun K' hk=>⟨h1,hk⟩,fun _=>⟨rfl,rfl⟩,fun _ h2 n2 K' hk=>⟨h1,hk⟩⟩
  ·exact hK.elim
 | mm mx xs =>
  simp only [rawK,opK] at hK ⊢
  split at hK
  ·exact ⟨_,h,n,hK,fun K' hk=>hk,fun _=>⟨rfl,rfl⟩,fun _ h2 n2 K' hk=>hk⟩
  ·split at hK
   ·exact ⟨_,h,n,hK,fun K' hk=>hk,fun _=>⟨rfl,rfl⟩,fun _ h2 n2 K' hk=>hk⟩
   ·exact hK.elim
 | app s sz b z x y =>
  simp only [rawK,opK] at hK ⊢
  obtain ⟨h1,h2,h3,h4,ys,h5,h6,hK⟩:=hK
  split at hK
  ·obtain ⟨g1,g2,g3,g4,g5⟩:=hK
   by_cases hys:ys=[]
   ·exact ⟨_,_,_,g4 hys,fun K' hk=>⟨h1,h2,h3,h4,ys,h5,h6,g1,g2,g3,fun _=>hk,fun h=>absurd hys h⟩,fun h0=>by simp [IOp.cls] at h0,fun h0=>by simp [IOp.cls] at h0⟩
   ·exact ⟨_,_,_,g5 hys,fun K' hk=>⟨h1,h2,h3,h4,ys,h5,h6,g1,g2,g3,fun h=>absurd h hys,fun _=>hk⟩,fun h0=>by simp [IOp.cls] at h0,fun h0=>by simp [IOp.cls] at h0⟩
  ·obtain ⟨g1,es,g2,g3,g4,g5,hK⟩:=hK
   split at hK
   ·split at hK
    ·rename_i hif
     exact ⟨_,_,_,hK.2,fun K' hk=>⟨h1,h2,h3,h4,ys,h5,h6,g1,es,g2,g3,g4,g5,by rw [if_pos hif]; exact ⟨hK.1,hk⟩⟩,fun h0=>by simp [IOp.cls] at h0,fun h0=>by simp [IOp.cls] at h0⟩
    ·rename_i hif
     exact ⟨_,_,_,hK,fun K' hk=>⟨h1,h2,h3,h4,ys,h5,h6,g1,es,g2,g3,g4,g5,by rw [if_neg hif]; exact hk⟩,fun h0=>by simp [IOp.cls] at h0,fun h0=>by simp [IOp.cls] at h0⟩
   ·split at hK
    ·rename_i hif
     exact ⟨_,_,_,hK,fun K' hk=>⟨h1,h2,h3,h4,ys,h5,h6,g1,es,g2,g3,g4,g5,by rw [if_pos hif]; exact hk⟩,fun h0=>by simp [IOp.cls] at h0,fun h0=>by simp [IOp.cls] at h0⟩
    ·rename_i hif
     exact ⟨_,_,_,hK,fun K' hk=>⟨h1,h2,h3,h4,ys,h5,h6,g1,es,g2,g3,g4,g5,by rw [if_neg hif]; exact hk⟩,fun h0=>by simp [IOp.cls] at h0,fun h0=>by simp [IOp.cls] at h0⟩
  ·exact hK.elim
 | mkm s =>
  obtain ⟨h1,h2⟩:=hK
  exact two _ rfl h2 fun K' hk=>⟨h1,hk⟩
 | lkp o k z x y =>
  simp only [rawK,opK] at hK ⊢
  split at hK
  ·obtain ⟨ps,r,h1,h2,h3⟩:=hK
   exact ⟨_,h,n,h3,fun K' hk=>⟨ps,r,h1,h2,hk⟩,fun _=>⟨rfl,rfl⟩,fun h0=>by simp [IOp.cls] at h0⟩
  ·exact hK.elim
 | lenM x =>
  simp only [rawK,opK] at hK ⊢
  split at hK
  ·obtain ⟨ps,h1,h3⟩:=hK
   exact ⟨_,h,n,h3,fun K' hk=>⟨ps,h1,hk⟩,fun _=>⟨rfl,rfl⟩,fun h0=>by simp [IOp.cls] at h0⟩
  ·exact hK.elim
 | bts x =>
  obtain ⟨es,ns,h1,h2,h3⟩:=hK
  exact ⟨_,h,n,h3,fun K' hk=>⟨es,ns,h1,h2,hk⟩,fun _=>⟨rfl,rfl⟩,fun h0=>by simp [IOp.cls] at h0⟩
 | apz s sz b z x y =>
  simp only [rawK,opK] at hK ⊢
  split at hK
  ·obtain ⟨h1,h2,h3,h4,h5,h6,h7,h8,h9,es,g1,g2,hK⟩:=hK
   exact ⟨_,_,_,hK,fun K' hk=>⟨h1,h2,h3,h4,h5,h6,h7,h8,h9,es,g1,g2,hk⟩,fun h0=>by simp [IOp.cls] at h0,fun h0=>by simp [IOp.cls] at h0⟩
  ·exact hK.elim
 | ovl x y =>
  simp only [rawK,opK] at hK ⊢
  split at hK
  ·obtain ⟨h1,h2⟩:=hK
   exact ⟨_,h,n,h2,fun K' hk=>⟨h1,hk⟩,fun _=>⟨rfl,rfl⟩,fun h0=>by simp [IOp.cls] at h0⟩
  ·exact hK.elim
 | rngS s x =>
  simp only [rawK,opK] at hK ⊢
  split at hK
  ·obtain ⟨h1,h2⟩:=hK
   exact ⟨_,_,_,h2,fun K' hk=>⟨h1,hk⟩,fun h0=>by simp [IOp.cls] at h0,fun h0=>by simp [IOp.cls] at h0⟩
  ·exact hK.elim
 | nxtS x =>
  simp only [rawK,opK] at hK ⊢
  split at hK
  ·obtain ⟨t,pos,h1,h2⟩:=hK
   by_cases hlt:pos < t.size
   ·rw [if_pos hlt] at h2
    exact ⟨_,_,_,h2,fun K' hk=>⟨t,pos,h1,by rw [if_pos hlt]; exact hk⟩,fun h0=>by simp [IOp.cls] at h0,fun h0=>by simp [IOp.cls] at h0⟩
   ·rw [if_neg hlt] at h2
    exact ⟨_,_,_,h2,fun K' hk=>⟨t,pos,h1,by rw [if_neg hlt]; exact hk⟩,fun h0=>by simp [IOp.cls] at h0,fun h0=>by simp [IOp.cls] at h0⟩
  ·exact hK.elim
 | mup k x y z =>
  simp only [rawK,opK] at hK ⊢
  split at hK
  ·obtain ⟨ps,r,h1,h2,h3⟩:=hK
   exact ⟨_,_,_,h3,fun K' hk=>⟨ps,r,h1,h2,hk⟩,fun h0=>by simp [IOp.cls] at h0,fun h0=>by simp [IOp.cls] at h0⟩
  ·exact hK.elim
 | del k x y =>
  simp only [rawK,opK] at hK ⊢
  split at hK
  ·obtain ⟨ps,r,h1,h2,h3⟩:=hK
   exact ⟨_,_,_,h3,fun K' hk=>⟨ps,r,h1,h2,hk⟩,fun h0=>by simp [IOp.cls] at h0,fun h0=>by simp [IOp.cls] at h0⟩
  ·exact hK.elim
 | clr sz z x =>
  simp only [rawK,opK] at hK ⊢
  obtain ⟨k1,k2,hK⟩:=hK
  split at hK
  ·obtain ⟨h1,es,h2,h3,h4⟩:=hK
   exact ⟨_,_,_,h4,fun K' hk=>⟨k1,k2,h1,es,h2,h3,hk⟩,fun h0=>by simp [IOp.cls] at h0,fun h0=>by simp [IOp.cls] at h0⟩
  ·exact ⟨_,_,_,hK,fun K' hk=>⟨k1,k2,hk⟩,fun h0=>by simp [IOp.cls] at h0,fun h0=>by simp [IOp.cls] at h0⟩
  ·exact hK.elim
 | cpy sz x y =>
  simp only [rawK,opK] at hK ⊢
  split at hK
  ·obtain ⟨h1,es,ys,h2,h3,h4,h5,h6⟩:=hK
   exact ⟨_,_,_,h6,fun K' hk=>⟨h1,es,ys,h2,h3,h4,h5,hk⟩,fun h0=>by simp [IOp.cls] at h0,fun h0=>by simp [IOp.cls] at h0⟩
  ·obtain ⟨ys,h4,h6⟩:=hK
   exact ⟨_,_,_,h6,fun K' hk=>⟨ys,h4,hk⟩,fun h0=>by simp [IOp.cls] at h0,fun h0=>by simp [IOp.cls] at h0⟩
  ·exact hK.elim
end Go.Proofs.Yticljphbbdnomaa.VL
