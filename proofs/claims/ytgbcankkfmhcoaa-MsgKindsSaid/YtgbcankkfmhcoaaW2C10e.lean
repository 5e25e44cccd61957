import Derived.Test.YtgbcankkfmhcoaaW2Za
section
namespace Go.Proofs.Ytgbcankkfmhcoaa.VL
open Go
set_option linter.unusedVariables false
set_option linter.unusedSectionVars false
set_option linter.unusedSimpArgs false
set_option maxRecDepth 100000
variable [Val]
abbrev U64 (x:Int):Prop:=0≤x∧x≤18446744073709551615
structure Giv (m:MB):Prop where
 sq:U64 m.2.2.2.1
 ki:U64 m.2.2.2.2.2.1
 nw:∀ x ∈ m.2.2.2.2.2.2.2.1,U64 x.2.1
 tb:∀ x ∈ m.2.2.2.2.2.2.2.2.1,U64 x.1
 ep:U64 m.2.2.2.2.2.2.2.2.2.1
 bo:U64 m.2.2.2.2.2.2.2.2.2.2.1
 tn:U64 m.2.2.2.2.2.2.2.2.2.2.2.2.2.1
structure May (m:MB):Prop where
 k:1≤m.1∧m.1≤12
 fr:0≤m.2.1∧m.2.1≤63
 to:0≤m.2.2.1∧m.2.2.1≤63
 sq:kindB m.1 0=false→m.2.2.2.1=0
 wh:kindB m.1 1=false→m.2.2.2.2.1=0
 ki:kindB m.1 2=false→m.2.2.2.2.2.1=0
 ks:kindB m.1 2=false→m.2.2.2.2.2.2.1=0
 nw:kindB m.1 3=false→m.2.2.2.2.2.2.2.1=[]
 tb:kindB m.1 4=false→m.2.2.2.2.2.2.2.2.1=[]
 ep:kindB m.1 5=false→m.2.2.2.2.2.2.2.2.2.1=0
 bo:kindB m.1 6=false→m.2.2.2.2.2.2.2.2.2.2.1=0
 ak:kindB m.1 7=false→m.2.2.2.2.2.2.2.2.2.2.2.1=0
 tk:kindB m.1 8=false→m.2.2.2.2.2.2.2.2.2.2.2.2.1.toList=[]
 tn:kindB m.1 8=false→m.2.2.2.2.2.2.2.2.2.2.2.2.2.1=0
 gd:kindB m.1 9=false→m.2.2.2.2.2.2.2.2.2.2.2.2.2.2=false
 rwh:0≤m.2.2.2.2.1∧m.2.2.2.2.1≤63
 rks:0≤m.2.2.2.2.2.2.1∧m.2.2.2.2.2.2.1≤3
 rnw:m.2.2.2.2.2.2.2.1.length≤8∧∀ x ∈ m.2.2.2.2.2.2.2.1,(0≤x.1∧x.1≤63)∧0≤x.2.2∧x.2.2≤3
 rtb:m.2.2.2.2.2.2.2.2.1.length≤64∧∀ x ∈ m.2.2.2.2.2.2.2.2.1,0≤x.2∧x.2≤3
 rak:0≤m.2.2.2.2.2.2.2.2.2.2.2.1∧m.2.2.2.2.2.2.2.2.2.2.2.1≤1099511627776
 rtk:m.2.2.2.2.2.2.2.2.2.2.2.2.1.size≤20
theorem may_of {m:MB} (h:msgB m=true):May m:=by
 obtain ⟨k,fr,to,sq,wh,ki,ks,nw,tb,ep,bo,ak,tk,tn,gd⟩:=m
 unfold msgB sameB bareM nodeB partsB nodeB at h
 simp only [Bool.and_eq_true,decide_eq_true_eq,Bool.not_eq_true',beq_eq_false_iff_ne,beq_iff_eq] at h
 obtain ⟨h1,⟨h2,h3⟩,h4,⟨_,_,_,s1,s2,s3,s4,s5,s6,s7,s8,s9,s10,s11,s12⟩,p1,p2,p3,p4,p5,p6⟩:=h
 have z1:kindB k 0=false→sq=0:=fun q=>by rw [q] at s1; simpa using s1
 have z2:kindB k 1=false→wh=0:=fun q=>by rw [q] at s2; simpa using s2
 have z3:kindB k 2=false→ki=0:=fun q=>by rw [q] at s3; simpa using s3
 have z4:kindB k 2=false→ks=0:=fun q=>by rw [q] at s4; simpa using s4
 have z5:kindB k 3=false→nw=[]:=fun q=>by rw [q] at s5; simpa using s5
 have z6:kindB k 4=false→tb=[]:=fun q=>by rw [q] at s6; simpa using s6
 have z7:kindB k 5=false→ep=0:=fun q=>by rw [q] at s7; simpa using s7
 have z8:kindB k 6=false→bo=0:=fun q=>by rw [q] at s8; simpa using s8
 have z9:kindB k 7=false→ak=0:=fun q=>by rw [q] at s9; simpa using s9
 have z10:kindB k 8=false→tk.toList=[]:=fun q=>by
  rw [q] at s10
  have e:(ByteArray.mk #[]).toList=[]:=by rw [toList_data]
  simpa [e] using s10
 have z11:kindB k 8=false→tn=0:=fun q=>by rw [q] at s11; simpa using s11
 have z12:kindB k 9=false→gd=false:=fun q=>by rw [q] at s12; simpa using s12
 refine ⟨h1,h2,h3,z1,z2,z3,z4,z5,z6,z7,z8,z9,z10,z11,z12,?_,?_,?_,?_,?_,?_⟩
 ·cases q:kindB k 1
  ·show 0≤wh∧wh≤63
   rw [z2 q]; omega
  ·rw [q] at p1
   simpa [nodeB] using p1
 ·cases q:kindB k 2
  ·show 0≤ks∧ks≤3
   rw [z4 q]; omega
  ·rw [q] at p2
   simpa [knowB] using p2
 ·cases q:kindB k 3
  ·show nw.length≤8∧∀ x ∈ nw,_
   rw [z5 q]; exact ⟨by simp,fun x hx=>by simp at hx⟩
  ·rw [q] at p3
   have p3:newsB nw=true:=by simpa using p3
   unfold newsB at p3
   rw [Bool.and_eq_true,decide_eq_true_iff,List.all_eq_true] at p3
   refine ⟨p3.1,fun x hx=>?_⟩
   have:=p3.2 x hx
   simpa [tellB,nodeB,knowB] using this
 ·cases q:kindB k 4
  ·show tb.length≤64∧∀ x ∈ tb,_
   rw [z6 q]; exact ⟨by simp,fun x hx=>by simp at hx⟩
  ·rw [q] at p4
   have p4:tabB tb=true:=by simpa using p4
   unfold tabB at p4
   rw [Bool.and_eq_true,Bool.and_eq_true,decide_eq_true_iff,decide_eq_true_iff,List.all_eq_true] at p4
   refine ⟨p4.1.2,fun x hx=>?_⟩
   have:=p4.2 x hx
   simpa [knowB] using this
 ·cases q:kindB k 7
  ·show 0≤ak∧ak≤1099511627776
   rw [z9 q]; omega
  ·rw [q] at p5
   simpa [tickB] using p5
 ·cases q:kindB k 8
  ·show tk.size≤20
   rw [← toList_len,z10 q]; exact Nat.zero_le _
  ·rw [q] at p6
   have p6:nmB tk=true:=by simpa using p6
   unfold nmB at p6
   rw [Bool.and_eq_true,Bool.and_eq_true,decide_eq_true_iff,decide_eq_true_iff] at p6
   exact p6.2.2
theorem F22_1 {x:Int} (h:U64 x):F22 [x]=some (mkB (numU x)):=by
 have:=F22_ok (l:=[x]) (show 1≤900 by decide) (fun y hy=>by rw [List.mem_singleton] at hy; subst hy; exact h)
 simpa [numsU] using this
theorem F22_2 {x y:Int} (h:U64 x) (k:U64 y):F22 [x,y]=some (mkB (numU x++numU y)):=by
 have:=F22_ok (l:=[x,y]) (show 2≤900 by decide) (fun z hz=>by
  rcases List.mem_cons.1 hz with rfl | hz
  ·exact h
  ·rw [List.mem_singleton] at hz; subst hz; exact k)
 simpa [numsU] using this
theorem F22_3 {x y z:Int} (h:U64 x) (k:U64 y) (l:U64 z):F22 [x,y,z]=some (mkB (numU x++(numU y++numU z))):=by
 have:=F22_ok (l:=[x,y,z]) (show 3≤900 by decide) (fun w hw=>by
  rcases List.mem_cons.1 hw with rfl | hw
  ·exact h
  rcases List.mem_cons.1 hw with rfl | hw
  ·exact k
  ·rw [List.mem_singleton] at hw; subst hw; exact l)
 simpa [numsU] using this
theorem uw {x:Int} (h:U64 x):IntKind.wrap .u64 x=x:=wu h.1 h.2
def newO (x:NW):List UInt8:=numU x.1++(numU x.2.1++numU x.2.2)
def tabO (x:KW):List UInt8:=numU x.1++numU x.2
def pN (m:MB):Nat→List UInt8
 | 0=>numU m.2.2.2.1
 | 1=>numU m.2.2.2.2.2.2.2.2.2.1
 | 2=>numU m.2.2.2.2.2.2.2.2.2.2.1
 | 3=>numU m.2.2.2.2.2.2.2.2.2.2.2.2.2.1
 | 4=>numU m.2.2.2.2.1
 | 5=>numU m.2.2.2.2.2.1++numU m.2.2.2.2.2.2.1
 | 6=>numU ((m.2.2.2.2.2.2.2.1.length:Nat):Int)++m.2.2.2.2.2.2.2.1.flatMap newO
 | 7=>numU ((m.2.2.2.2.2.2.2.2.1.length:Nat):Int)++m.2.2.2.2.2.2.2.2.1.flatMap tabO
 | 8=>numU m.2.2.2.2.2.2.2.2.2.2.2.1
 | 9=>numU ((m.2.2.2.2.2.2.2.2.2.2.2.2.1.size:Nat):Int)++m.2.2.2.2.2.2.2.2.2.2.2.2.1.toList
 | _=>numU (if m.2.2.2.2.2.2.2.2.2.2.2.2.2.2=true then 1 else 0)
def litN:Nat→ByteArray
 | 0=>ByteArray.mk #[115,101,113]
 | 1=>ByteArray.mk #[101,112,111,99,104]
 | 2=>ByteArray.mk #[98,111,111,116]
 | 3=>ByteArray.mk #[116,111,107,101,110]
 | 4=>ByteArray.mk #[119,104,111]
 | 5=>ByteArray.mk #[107]
 | 6=>ByteArray.mk #[110,101,119,115]
 | 7=>ByteArray.mk #[116,97,98,108,101]
 | 8=>ByteArray.mk #[97,115,107,101,100]
 | 9=>ByteArray.mk #[116,97,115,107]
 | _=>ByteArray.mk #[103,111,111,100]
def hasN (k:Int):List Nat:=if k=1 then [0,5,6] else if k=2 then [0,4,6] else if k=3 then [0,4,5,6] else if k=4 then [0,4] else if k=5 then [7] else if k=6 then [7] else if k=7 then [1,2,8] else if k=8 then [1,2,8] else if k=9 then [1,2] else if k=10 then [2,8] else if k=11 then [1,2,8,9,3] else [9,3,10]
theorem kinds {k:Int} (h:1≤k∧k≤12):k=1∨k=2∨k=3∨k=4∨k=5∨k=6∨k=7∨k=8∨k=9∨k=10∨k=11∨k=12:=by omega
theorem has_ok {k:Int} (h:1≤k∧k≤12):F24 k=some ((hasN k).map litN)∧(hasN k).length≤5∧∀ j ∈ hasN k,j≤10:=by
 rcases kinds h with rfl | rfl | rfl | rfl | rfl | rfl | rfl | rfl | rfl | rfl | rfl | rfl
 ·exact ⟨has1,by decide,by decide⟩
 ·exact ⟨has2,by decide,by decide⟩
 ·exact ⟨has3,by decide,by decide⟩
 ·exact ⟨has4,by decide,by decide⟩
 ·exact ⟨has5,by decide,by decide⟩
 ·exact ⟨has6,by decide,by decide⟩
 ·exact ⟨has7,by decide,by decide⟩
 ·exact ⟨has8,by decide,by decide⟩
 ·exact ⟨has9,by decide,by decide⟩
 ·exact ⟨has10,by decide,by decide⟩
 ·exact ⟨has11,by decide,by decide⟩
 ·exact ⟨has12,by decide,by decide⟩
theorem flat_len10 {α:Type} {f:α→List UInt8} {c:Nat}:∀ {l:List α},(∀ x ∈ l,(f x).length≤c)→(l.flatMap f).length≤c * l.length
 | [],_=>Nat.le_refl _
 | a::r,h=>by
  have h1:=flat_len10 (l:=r) (fun x hx=>h x (by simp [hx]))
  have h2:=h a (by simp)
  rw [List.flatMap_cons,List.length_append,List.length_cons,Nat.mul_add]
  omega
theorem F61_ok {i s:Int} (h:U64 i) (k:0≤s∧s≤3):F61 (i,s)=some (mkB (numU i++numU s)):=by
 rw [F61_eq]
 have e:U64 s:=⟨k.1,by omega⟩
 have f:=F22_2 h e
 simp only [uw e]
 rw [f]; rfl
theorem news_oct {m:MB} (g:Giv m) (h:May m):F65 m=some (mkB (pN m 6)):=by
 rw [F65_eq]
 obtain ⟨k,fr,to,sq,wh,ki,ks,l,tb,ep,bo,ak,tk,tn,gd⟩:=m
 have hl:l.length≤8:=h.rnw.1
 have hr:∀ x ∈ l,(0≤x.1∧x.1≤63)∧0≤x.2.2∧x.2.2≤3:=h.rnw.2
 have hu:∀ x ∈ l,U64 x.2.1:=g.nw
 have e0:U64 ((l.length:Nat):Int):=⟨by omega,by omega⟩
 have f0:=F22_1 e0
 have hn:(numU ((l.length:Nat):Int)).length≤10:=numU_len e0.2
 have ho:∀ x ∈ l,(newO x).length≤30:=fun x hx=>by
  obtain ⟨⟨a,b⟩,c,d⟩:=hr x hx
  have h1:=numU_len (x:=x.1) (by omega)
  have h2:=numU_len (hu x hx).2
  have h3:=numU_len (x:=x.2.2) (by omega)
  unfold newO
  rw [List.length_append,List.length_append]; omega
 show _=some (mkB (numU ((l.length:Nat):Int)++l.flatMap newO))
 simp -implicitDefEqProofs only [uw e0,f0,eq_self,xs]
 rw [loop_detE (s0:=(mkB (numU ((l.length:Nat):Int)),(0:Int))) l.length (fun i=>(mkB (numU ((l.length:Nat):Int)++(l.take i).flatMap newO),((i:Nat):Int))) (mkB (numU ((l.length:Nat):Int)++l.flatMap newO)) (by simp)]
 ·have q:¬ ((l.length:Nat):Int) < ((l.length:Nat):Int):=by omega
  have e:l.take l.length=l:=List.take_length
  simp -implicitDefEqProofs only [q,e,eq_self,xs]
 ·intro i hi
  have q1:((i:Nat):Int) < ((l.length:Nat):Int):=by omega
  have q2:(0:Int)≤(i:Int):=by omega
  have gg:=List.getElem?_eq_getElem hi
  have hx:=hr l[i] (List.getElem_mem hi)
  have hux:=hu l[i] (List.getElem_mem hi)
  have hox:=ho l[i] (List.getElem_mem hi)
  have tk':(l.take (i+1)).flatMap newO=(l.take i).flatMap newO++newO l[i]:=by
   rw [List.take_succ_eq_append_getElem hi,List.flatMap_append]; simp
  have hA:((l.take i).flatMap newO).length≤240:=by
   have:=flat_len10 (l:=l.take i) (fun x hx=>ho x (List.mem_of_mem_take hx))
   rw [List.length_take] at this
   omega
  rw [tk']
  generalize l[i]=x at *
  generalize (l.take i).flatMap newO=A at *
  have e1:U64 x.1:=⟨hx.1.1,by omega⟩
  have f1:=F22_1 e1
  have f2:=F61_ok hux hx.2
  have hB:(numU ((l.length:Nat):Int)++A).length≤300:=by rw [List.length_append]; omega
  rw [← List.append_assoc]
  generalize numU ((l.length:Nat):Int)++A=B at *
  unfold newO at hox ⊢
  have s1:(mkB (numU x.1)).size+(mkB (numU x.2.1++numU x.2.2)).size≤4611686018427387904:=by
   rw [mkB_size,mkB_size]; rw [List.length_append] at hox; omega
  have s2:(mkB B).size+(mkB (numU x.1++(numU x.2.1++numU x.2.2))).size≤4611686018427387904:=by
   rw [mkB_size,mkB_size]; omega
  have ww:=w1 (show i≤9223372036854775806 by omega)
  simp -implicitDefEqProofs only [q1,q2,gg,uw e1,f1,f2,s1,mkB_app,s2,ww,eq_self,xs]
theorem tab_oct {m:MB} (g:Giv m) (h:May m):F69 m=some (mkB (pN m 7)):=by
 rw [F69_eq]
 obtain ⟨k,fr,to,sq,wh,ki,ks,nw,l,ep,bo,ak,tk,tn,gd⟩:=m
 have hl:l.length≤64:=h.rtb.1
 have hr:∀ x ∈ l,0≤x.2∧x.2≤3:=h.rtb.2
 have hu:∀ x ∈ l,U64 x.1:=g.tb
 have e0:U64 ((l.length:Nat):Int):=⟨by omega,by omega⟩
 have f0:=F22_1 e0
 have hn:(numU ((l.length:Nat):Int)).length≤10:=numU_len e0.2
 have ho:∀ x ∈ l,(tabO x).length≤20:=fun x hx=>by
  obtain ⟨c,d⟩:=hr x hx
  have h2:=numU_len (hu x hx).2
  have h3:=numU_len (x:=x.2) (by omega)
  unfold tabO
  rw [List.length_append]; omega
 show _=some (mkB (numU ((l.length:Nat):Int)++l.flatMap tabO))
 simp -implicitDefEqProofs only [uw e0,f0,eq_self,xs]
 rw [loop_detE (s0:=(mkB (numU ((l.length:Nat):Int)),(0:Int))) l.length (fun i=>(mkB (numU ((l.length:Nat):Int)++(l.take i).flatMap tabO),((i:Nat):Int))) (mkB (numU ((l.length:Nat):Int)++l.flatMap tabO)) (by simp)]
 ·have q:¬ ((l.length:Nat):Int) < ((l.length:Nat):Int):=by omega
  have e:l.take l.length=l:=List.take_length
  simp -implicitDefEqProofs only [q,e,eq_self,xs]
 ·intro i hi
  have q1:((i:Nat):Int) < ((l.length:Nat):Int):=by omega
  have q2:(0:Int)≤(i:Int):=by omega
  have gg:=List.getElem?_eq_getElem hi
  have hx:=hr l[i] (List.getElem_mem hi)
  have hux:=hu l[i] (List.getElem_mem hi)
  have hox:=ho l[i] (List.getElem_mem hi)
  have tk':(l.take (i+1)).flatMap tabO=(l.take i).flatMap tabO++tabO l[i]:=by
   rw [List.take_succ_eq_append_getElem hi,List.flatMap_append]; simp
  have hA:((l.take i).flatMap tabO).length≤1280:=by
   have:=flat_len10 (l:=l.take i) (fun x hx=>ho x (List.mem_of_mem_take hx))
   rw [List.length_take] at this
   omega
  rw [tk']
  generalize l[i]=x at *
  generalize (l.take i).flatMap tabO=A at *
  have f2:=F61_ok hux hx
  have hB:(numU ((l.length:Nat):Int)++A).length≤1300:=by rw [List.length_append]; omega
  rw [← List.append_assoc]
  generalize numU ((l.length:Nat):Int)++A=B at *
  unfold tabO at hox ⊢
  have s2:(mkB B).size+(mkB (numU x.1++numU x.2)).size≤4611686018427387904:=by
   rw [mkB_size,mkB_size]; omega
  have ww:=w1 (show i≤9223372036854775806 by omega)
  simp -implicitDefEqProofs only [q1,q2,gg,f2,mkB_app,s2,ww,eq_self,xs]
theorem mkB_of (s:ByteArray):mkB s.toList=s:=toList_inj (mkB_toList _)
theorem task_oct {m:MB} (h:May m):F76 m=some (mkB (pN m 9)):=by
 rw [F76_eq,F88_eq]
 obtain ⟨k,fr,to,sq,wh,ki,ks,nw,tb,ep,bo,ak,tk,tn,gd⟩:=m
 have hs:tk.size≤20:=h.rtk
 have e0:U64 ((tk.size:Nat):Int):=⟨by omega,by omega⟩
 have f0:=F22_1 e0
 have hn:(numU ((tk.size:Nat):Int)).length≤10:=numU_len e0.2
 have q:¬ ((tk.size:Nat):Int) > 200:=by omega
 have s1:(mkB (numU ((tk.size:Nat):Int))).size+tk.size≤4611686018427387904:=by rw [mkB_size]; omega
 have e:mkB (numU ((tk.size:Nat):Int))++tk=mkB (numU ((tk.size:Nat):Int)++tk.toList):=by
  rw [← mkB_app,mkB_of]
 show _=some (mkB (numU ((tk.size:Nat):Int)++tk.toList))
 simp -implicitDefEqProofs only [q,uw e0,f0,s1,nz0,e,eq_self,xs]
theorem good_oct {m:MB}:F78 m=some (mkB (pN m 10)):=by
 rw [F78_eq]
 obtain ⟨k,fr,to,sq,wh,ki,ks,nw,tb,ep,bo,ak,tk,tn,gd⟩:=m
 show _=some (mkB (numU (if gd=true then 1 else 0)))
 have f1:=F22_1 (x:=1) ⟨by omega,by omega⟩
 have f0:=F22_1 (x:=0) ⟨by omega,by omega⟩
 cases gd<;>simp only [F79_eq,cond_true,cond_false,Option.bind_some,f1,f0,if_true,Bool.false_eq_true,if_false]
theorem pN_len {m:MB} (g:Giv m) (h:May m) (j:Nat):(pN m j).length≤1400:=by
 have hz:∀ x:Int,U64 x→(numU x).length≤10:=fun x hx=>numU_len hx.2
 match j with
 | 0=>have:=hz _ g.sq; simp only [pN]; omega
 | 1=>have:=hz _ g.ep; simp only [pN]; omega
 | 2=>have:=hz _ g.bo; simp only [pN]; omega
 | 3=>have:=hz _ g.tn; simp only [pN]; omega
 | 4=>have:=numU_len (x:=m.2.2.2.2.1) (by have:=h.rwh; omega); simp only [pN]; omega
 | 5 =>
  have h1:=hz _ g.ki
  have h2:=numU_len (x:=m.2.2.2.2.2.2.1) (by have:=h.rks; omega)
  simp only [pN,List.length_append]; omega
 | 6 =>
  have h1:=numU_len (x:=((m.2.2.2.2.2.2.2.1.length:Nat):Int)) (by have:=h.rnw.1; omega)
  have h2:=flat_len10 (f:=newO) (c:=30) (l:=m.2.2.2.2.2.2.2.1) (fun x hx=>by
   obtain ⟨⟨a,b⟩,c,d⟩:=h.rnw.2 x hx
   have h1:=numU_len (x:=x.1) (by omega)
   have h2:=hz _ (g.nw x hx)
   have h3:=numU_len (x:=x.2.2) (by omega)
   unfold newO
   rw [List.length_append,List.length_append]; omega)
  have:=h.rnw.1
  simp only [pN,List.length_append]; omega
 | 7 =>
  have h1:=numU_len (x:=((m.2.2.2.2.2.2.2.2.1.length:Nat):Int)) (by have:=h.rtb.1; omega)
  have h2:=flat_len10 (f:=tabO) (c:=20) (l:=m.2.2.2.2.2.2.2.2.1) (fun x hx=>by
   obtain ⟨c,d⟩:=h.rtb.2 x hx
   have h2:=hz _ (g.tb x hx)
   have h3:=numU_len (x:=x.2) (by omega)
   unfold tabO
   rw [List.length_append]; omega)
  have:=h.rtb.1
  simp only [pN,List.length_append]; omega
 | 8=>have:=numU_len (x:=m.2.2.2.2.2.2.2.2.2.2.2.1) (by have:=h.rak; omega); simp only [pN]; omega
 | 9 =>
  have h1:=numU_len (x:=((m.2.2.2.2.2.2.2.2.2.2.2.2.1.size:Nat):Int)) (by have:=h.rtk; omega)
  have h2:=toList_len m.2.2.2.2.2.2.2.2.2.2.2.2.1
  have:=h.rtk
  simp only [pN,List.length_append]; omega
 | j+10 =>
  simp only [pN]
  have:=numU_len (x:=if m.2.2.2.2.2.2.2.2.2.2.2.2.2.2=true then 1 else 0) (by split<;>omega)
  omega
end Go.Proofs.Ytgbcankkfmhcoaa.VL
end
section
namespace Go.Proofs.Ytgbcankkfmhcoaa.VL
open Go
set_option linter.unusedVariables false
set_option linter.unusedSectionVars false
set_option linter.unusedSimpArgs false
set_option maxRecDepth 100000
variable [Val]
theorem pN_len2 {m:MB} (g:Giv m) (h:May m) (j:Nat) (hj:j≠7):(pN m j).length≤300:=by
 have hz:∀ x:Int,U64 x→(numU x).length≤10:=fun x hx=>numU_len hx.2
 match j,hj with
 | 0,_=>have:=hz _ g.sq; simp only [pN]; omega
 | 1,_=>have:=hz _ g.ep; simp only [pN]; omega
 | 2,_=>have:=hz _ g.bo; simp only [pN]; omega
 | 3,_=>have:=hz _ g.tn; simp only [pN]; omega
 | 4,_=>have:=numU_len (x:=m.2.2.2.2.1) (by have:=h.rwh; omega); simp only [pN]; omega
 | 5,_ =>
  have h1:=hz _ g.ki
  have h2:=numU_len (x:=m.2.2.2.2.2.2.1) (by have:=h.rks; omega)
  simp only [pN,List.length_append]; omega
 | 6,_ =>
  have h1:=numU_len (x:=((m.2.2.2.2.2.2.2.1.length:Nat):Int)) (by have:=h.rnw.1; omega)
  have h2:=flat_len10 (f:=newO) (c:=30) (l:=m.2.2.2.2.2.2.2.1) (fun x hx=>by
   obtain ⟨⟨a,b⟩,c,d⟩:=h.rnw.2 x hx
   have h1:=numU_len (x:=x.1) (by omega)
   have h2:=hz _ (g.nw x hx)
   have h3:=numU_len (x:=x.2.2) (by omega)
   unfold newO
   rw [List.length_append,List.length_append]; omega)
  have:=h.rnw.1
  simp only [pN,List.length_append]; omega
 | 8,_=>have:=numU_len (x:=m.2.2.2.2.2.2.2.2.2.2.2.1) (by have:=h.rak; omega); simp only [pN]; omega
 | 9,_ =>
  have h1:=numU_len (x:=((m.2.2.2.2.2.2.2.2.2.2.2.2.1.size:Nat):Int)) (by have:=h.rtk; omega)
  have h2:=toList_len m.2.2.2.2.2.2.2.2.2.2.2.2.1
  have:=h.rtk
  simp only [pN,List.length_append]; omega
 | j+10,_ =>
  simp only [pN]
  have:=numU_len (x:=if m.2.2.2.2.2.2.2.2.2.2.2.2.2.2=true then 1 else 0) (by split<;>omega)
  omega
def parO (m:MB):List UInt8:=(hasN m.1).flatMap (pN m)
theorem parO_len {m:MB} (g:Giv m) (h:May m):(parO m).length≤1500:=by
 unfold parO
 by_cases h7:hasN m.1=[7]
 ·rw [h7]
  have:=pN_len g h 7
  simp only [List.flatMap_cons,List.flatMap_nil,List.append_nil]; omega
 ·have hn:∀ j ∈ hasN m.1,j≠7:=by
   have hk:=h.k
   generalize m.1=k at *
   rcases kinds hk with rfl | rfl | rfl | rfl | rfl | rfl | rfl | rfl | rfl | rfl | rfl | rfl<;>first | decide | exact absurd rfl h7
  have h1:=flat_len10 (f:=pN m) (c:=300) (l:=hasN m.1) (fun j hj=>pN_len2 g h j (hn j hj))
  have h2:=(has_ok h.k).2.1
  omega
def heaO (m:MB):List UInt8:=numU m.1++(numU m.2.1++numU m.2.2.1)
def bodO (m:MB):List UInt8:=heaO m++parO m
def four (c:Int):List UInt8:=[bI (IntKind.wrap .u8 c),bI (IntKind.wrap .u8 (Int.fdiv c 256)),bI (IntKind.wrap .u8 (Int.fdiv c 65536)),bI (IntKind.wrap .u8 (Int.fdiv c 16777216))]
def txtO (m:MB):List UInt8:=bodO m++four (crc (bodO m))
theorem F81_ok (c:Int):F81 c=some (mkB (four c)):=by rw [F81_eq]; rfl
theorem seal_ok {l:List UInt8} (h:l.length≤4096):F25 (mkB l)=some (mkB (l++four (crc l)),0):=by
 rw [F25_eq]
 have q:¬ (((mkB l).size:Nat):Int) > 4096:=by rw [mkB_size]; omega
 have f:=F82_ok (s:=mkB l) (by rw [mkB_size]; omega)
 rw [mkB_toList] at f
 have f2:=F81_ok (crc l)
 have s:(mkB l).size+(mkB (four (crc l))).size≤4611686018427387904:=by
  rw [mkB_size,mkB_size]
  have:(four (crc l)).length=4:=rfl
  omega
 rw [decide_eq_false q,cond_false]
 simp only [f,f2,Option.bind_some,decide_eq_true s,cond_true,mkB_app]
theorem write_ok {m:MB} (g:Giv m) (hm:msgB m=true) (hw:m.2.2.2.2.2.2.2.1.length≤1000) (ht:m.2.2.2.2.2.2.2.2.1.length≤1000) (hk:m.2.2.2.2.2.2.2.2.2.2.2.2.1.size≤maxLen):F10 m=some (mkB (txtO m),0):=by
 have h:=may_of hm
 have c:=check_ok m hw ht hk
 rw [if_pos hm] at c
 have hr:=h.k
 have hf:=h.fr
 have hto:=h.to
 have e1:U64 m.1:=⟨by omega,by omega⟩
 have e2:U64 m.2.1:=⟨by omega,by omega⟩
 have e3:U64 m.2.2.1:=⟨by omega,by omega⟩
 have f3:=F22_3 e1 e2 e3
 obtain ⟨f24,hlen,hj10⟩:=has_ok h.k
 have p0:F22 [m.2.2.2.1]=some (mkB (pN m 0)):=F22_1 g.sq
 have p1:F22 [m.2.2.2.2.2.2.2.2.2.1]=some (mkB (pN m 1)):=F22_1 g.ep
 have p2:F22 [m.2.2.2.2.2.2.2.2.2.2.1]=some (mkB (pN m 2)):=F22_1 g.bo
 have p3:F22 [m.2.2.2.2.2.2.2.2.2.2.2.2.2.1]=some (mkB (pN m 3)):=F22_1 g.tn
 have p4:F56 m=some (mkB (pN m 4)):=by
  rw [F56_eq]
  have e:U64 m.2.2.2.2.1:=⟨h.rwh.1,by have:=h.rwh; omega⟩
  rw [uw e,F22_1 e]; rfl
 have p5:F60 m=some (mkB (pN m 5)):=by
  rw [F60_eq,F61_ok g.ki h.rks]; rfl
 have p6:=news_oct g h
 have p7:=tab_oct g h
 have p8:F73 m=some (mkB (pN m 8)):=by
  rw [F73_eq]
  have e:U64 m.2.2.2.2.2.2.2.2.2.2.2.1:=⟨h.rak.1,by have:=h.rak; omega⟩
  rw [uw e,F22_1 e]; rfl
 have p9:=task_oct h
 have p10:F78 m=some (mkB (pN m 10)):=good_oct
 have pl:=pN_len g h
 have hP:=parO_len g h
 have hH:(heaO m).length≤30:=by
  unfold heaO
  have a:=numU_len e1.2
  have b:=numU_len e2.2
  have d:=numU_len e3.2
  rw [List.length_append,List.length_append]; omega
 have fs:=seal_ok (l:=bodO m) (by unfold bodO; rw [List.length_append]; omega)
 have u1:=uw e1
 have u2:=uw e2
 have u3:=uw e3
 unfold txtO
 have hbod:bodO m=heaO m++(hasN m.1).flatMap (pN m):=rfl
 have hhea:mkB (numU m.1++(numU m.2.1++numU m.2.2.1))=mkB (heaO m):=rfl
 rw [F10_eq]
 obtain ⟨k,fr,to,sq,wh,ki,ks,nw,tb,ep,bo,ak,tk,tn,gd⟩:=m
 simp only at c u1 u2 u3 f3 f24 p0 p1 p2 p3 hhea hbod hlen hj10
 simp only [c,u1,u2,u3,f3,f24,Option.bind_some,nz0,cond_false,hhea]
 generalize hm':((k,fr,to,sq,wh,ki,ks,nw,tb,ep,bo,ak,tk,tn,gd):MB)=m at *
 generalize heaO m=H at *
 generalize hasN k=L at *
 rw [loop_detE (s0:=(mkB H,(0:Int))) L.length (fun i=>(mkB (H++(L.take i).flatMap (pN m)),((i:Nat):Int))) (mkB (H++L.flatMap (pN m))) (by simp)]
 ·rw [hbod] at fs
  simp only [Option.bind_some,fs,hbod]
  try rfl
 ·have q:¬ ((L.length:Nat):Int) < (((L.map litN).length:Nat):Int):=by rw [List.length_map]; omega
  have e:L.take L.length=L:=List.take_length
  simp only [decide_eq_false q,cond_false,e]
 ·intro i hi
  have q1:((i:Nat):Int) < (((L.map litN).length:Nat):Int):=by rw [List.length_map]; omega
  have q2:(0:Int)≤(i:Int):=by omega
  have gg:(L.map litN)[i]?=some (litN L[i]):=by rw [List.getElem?_map,List.getElem?_eq_getElem hi]; rfl
  have hj:=hj10 L[i] (List.getElem_mem hi)
  have tk':(L.take (i+1)).flatMap (pN m)=(L.take i).flatMap (pN m)++pN m L[i]:=by
   rw [List.take_succ_eq_append_getElem hi,List.flatMap_append]; simp
  have hA:((L.take i).flatMap (pN m)).length≤7000:=by
   have:=flat_len10 (f:=pN m) (c:=1400) (l:=L.take i) (fun j _=>pl j)
   rw [List.length_take] at this
   omega
  rw [tk',← List.append_assoc]
  generalize L[i]=j at *
  have hB:(H++(L.take i).flatMap (pN m)).length≤7100:=by rw [List.length_append]; omega
  generalize H++(L.take i).flatMap (pN m)=B at *
  have ss:(mkB B).size+(mkB (pN m j)).size≤4611686018427387904:=by
   rw [mkB_size,mkB_size]
   have:=pl j
   omega
  have ww:=w1 (show i≤9223372036854775806 by omega)
  have hjj:j=0∨j=1∨j=2∨j=3∨j=4∨j=5∨j=6∨j=7∨j=8∨j=9∨j=10:=by omega
  rcases hjj with rfl | rfl | rfl | rfl | rfl | rfl | rfl | rfl | rfl | rfl | rfl<;>simp only [litN] at gg<;>simp -implicitDefEqProofs only [q1,q2,gg,nq,p0,p1,p2,p3,p4,p5,p6,p7,p8,p9,p10,ss,mkB_app,ww,eq_self,xs]
end Go.Proofs.Ytgbcankkfmhcoaa.VL
end
section
namespace Go.Proofs.Ytgbcankkfmhcoaa.VL
open Go
set_option linter.unusedVariables false
set_option linter.unusedSectionVars false
set_option linter.unusedSimpArgs false
set_option maxRecDepth 100000
variable [Val]
theorem list_pre {α:Type} {f:α→List UInt8}:∀ {l l':List α} {r s:List UInt8},(∀ x ∈ l,∀ y ∈ l',∀ r s,f x++r=f y++s→x=y∧r=s)→l.length=l'.length→l.flatMap f++r=l'.flatMap f++s→l=l'∧r=s
 | [],[],r,s,_,_,h=>⟨rfl,by simpa using h⟩
 | [],b::l',r,s,_,hl,_=>by simp at hl
 | a::l,[],r,s,_,hl,_=>by simp at hl
 | a::l,b::l',r,s,hf,hl,h=>by
  rw [List.flatMap_cons,List.flatMap_cons,List.append_assoc,List.append_assoc] at h
  obtain ⟨h1,h2⟩:=hf a (by simp) b (by simp) _ _ h
  obtain ⟨h3,h4⟩:=list_pre (l:=l) (l':=l') (fun x hx y hy=>hf x (by simp [hx]) y (by simp [hy])) (by simpa using hl) h2
  exact ⟨by rw [h1,h3],h4⟩
def fEq (m n:MB):Nat→Prop
 | 0=>m.2.2.2.1=n.2.2.2.1
 | 1=>m.2.2.2.2.2.2.2.2.2.1=n.2.2.2.2.2.2.2.2.2.1
 | 2=>m.2.2.2.2.2.2.2.2.2.2.1=n.2.2.2.2.2.2.2.2.2.2.1
 | 3=>m.2.2.2.2.2.2.2.2.2.2.2.2.2.1=n.2.2.2.2.2.2.2.2.2.2.2.2.2.1
 | 4=>m.2.2.2.2.1=n.2.2.2.2.1
 | 5=>m.2.2.2.2.2.1=n.2.2.2.2.2.1∧m.2.2.2.2.2.2.1=n.2.2.2.2.2.2.1
 | 6=>m.2.2.2.2.2.2.2.1=n.2.2.2.2.2.2.2.1
 | 7=>m.2.2.2.2.2.2.2.2.1=n.2.2.2.2.2.2.2.2.1
 | 8=>m.2.2.2.2.2.2.2.2.2.2.2.1=n.2.2.2.2.2.2.2.2.2.2.2.1
 | 9=>m.2.2.2.2.2.2.2.2.2.2.2.2.1.toList=n.2.2.2.2.2.2.2.2.2.2.2.2.1.toList
 | _=>m.2.2.2.2.2.2.2.2.2.2.2.2.2.2=n.2.2.2.2.2.2.2.2.2.2.2.2.2.2
theorem part_pre {m n:MB} (gm:Giv m) (hm:May m) (gn:Giv n) (hn:May n) (j:Nat) {r s:List UInt8} (h:pN m j++r=pN n j++s):fEq m n j∧r=s:=by
 match j,h with
 | 0,h=>exact numU_pre gm.sq.1 gn.sq.1 h
 | 1,h=>exact numU_pre gm.ep.1 gn.ep.1 h
 | 2,h=>exact numU_pre gm.bo.1 gn.bo.1 h
 | 3,h=>exact numU_pre gm.tn.1 gn.tn.1 h
 | 4,h=>exact numU_pre hm.rwh.1 hn.rwh.1 h
 | 5,h =>
  simp only [pN,List.append_assoc] at h
  obtain ⟨h1,h2⟩:=numU_pre gm.ki.1 gn.ki.1 h
  obtain ⟨h3,h4⟩:=numU_pre hm.rks.1 hn.rks.1 h2
  exact ⟨⟨h1,h3⟩,h4⟩
 | 6,h =>
  simp only [pN,List.append_assoc] at h
  obtain ⟨h1,h2⟩:=numU_pre (by omega) (by omega) h
  refine list_pre (fun x hx y hy r s hh=>?_) (by omega) h2
  simp only [newO,List.append_assoc] at hh
  obtain ⟨a1,a2⟩:=numU_pre (hm.rnw.2 x hx).1.1 (hn.rnw.2 y hy).1.1 hh
  obtain ⟨a3,a4⟩:=numU_pre (gm.nw x hx).1 (gn.nw y hy).1 a2
  obtain ⟨a5,a6⟩:=numU_pre (hm.rnw.2 x hx).2.1 (hn.rnw.2 y hy).2.1 a4
  exact ⟨Prod.ext a1 (Prod.ext a3 a5),a6⟩
 | 7,h =>
  simp only [pN,List.append_assoc] at h
  obtain ⟨h1,h2⟩:=numU_pre (by omega) (by omega) h
  refine list_pre (fun x hx y hy r s hh=>?_) (by omega) h2
  simp only [tabO,List.append_assoc] at hh
  obtain ⟨a1,a2⟩:=numU_pre (gm.tb x hx).1 (gn.tb y hy).1 hh
  obtain ⟨a3,a4⟩:=numU_pre (hm.rtb.2 x hx).1 (hn.rtb.2 y hy).1 a2
  exact ⟨Prod.ext a1 a3,a4⟩
 | 8,h=>exact numU_pre hm.rak.1 hn.rak.1 h
 | 9,h =>
  simp only [pN,List.append_assoc] at h
  obtain ⟨h1,h2⟩:=numU_pre (by omega) (by omega) h
  exact List.append_inj h2 (by rw [toList_len,toList_len]; omega)
 | j+10,h =>
  simp only [pN] at h
  obtain ⟨h1,h2⟩:=numU_pre (by split<;>omega) (by split<;>omega) h
  refine ⟨?_,h2⟩
  show m.2.2.2.2.2.2.2.2.2.2.2.2.2.2=n.2.2.2.2.2.2.2.2.2.2.2.2.2.2
  generalize m.2.2.2.2.2.2.2.2.2.2.2.2.2.2=a at *
  generalize n.2.2.2.2.2.2.2.2.2.2.2.2.2.2=b at *
  cases a<;>cases b<;>first | rfl | (simp at h1)
theorem parts_pre {m n:MB} (gm:Giv m) (hm:May m) (gn:Giv n) (hn:May n):∀ {L:List Nat} {r s:List UInt8},L.flatMap (pN m)++r=L.flatMap (pN n)++s→(∀ j ∈ L,fEq m n j)∧r=s
 | [],r,s,h=>⟨fun j hj=>by simp at hj,by simpa using h⟩
 | a::L,r,s,h=>by
  rw [List.flatMap_cons,List.flatMap_cons,List.append_assoc,List.append_assoc] at h
  obtain ⟨h1,h2⟩:=part_pre gm hm gn hn a h
  obtain ⟨h3,h4⟩:=parts_pre gm hm gn hn h2
  exact ⟨fun j hj=>by
   rcases List.mem_cons.1 hj with rfl | hj
   ·exact h1
   ·exact h3 j hj,h4⟩
theorem in_has {k:Int} (h:1≤k∧k≤12):(kindB k 0=true→0 ∈ hasN k)∧(kindB k 1=true→4 ∈ hasN k)∧(kindB k 2=true→5 ∈ hasN k)∧(kindB k 3=true→6 ∈ hasN k)∧(kindB k 4=true→7 ∈ hasN k)∧(kindB k 5=true→1 ∈ hasN k)∧(kindB k 6=true→2 ∈ hasN k)∧(kindB k 7=true→8 ∈ hasN k)∧(kindB k 8=true→9 ∈ hasN k)∧(kindB k 8=true→3 ∈ hasN k)∧(kindB k 9=true→10 ∈ hasN k):=by
 rcases kinds h with rfl | rfl | rfl | rfl | rfl | rfl | rfl | rfl | rfl | rfl | rfl | rfl<;>decide
theorem txt_same {m n:MB} (gm:Giv m) (hm:May m) (gn:Giv n) (hn:May n) (h:txtO m=txtO n):sameB m n=true:=by
 unfold txtO at h
 have h:=(List.append_inj' h rfl).1
 unfold bodO heaO at h
 rw [List.append_assoc,List.append_assoc,List.append_assoc,List.append_assoc] at h
 have km:=hm.k
 have kn:=hn.k
 obtain ⟨h1,h2⟩:=numU_pre (by omega) (by omega) h
 obtain ⟨h3,h4⟩:=numU_pre hm.fr.1 hn.fr.1 h2
 obtain ⟨h5,h6⟩:=numU_pre hm.to.1 hn.to.1 h4
 unfold parO at h6
 rw [← h1] at h6
 obtain ⟨hall,_⟩:=parts_pre (r:=[]) (s:=[]) gm hm gn hn (L:=hasN m.1) (by rw [List.append_nil,List.append_nil]; exact h6)
 obtain ⟨i0,i1,i2,i3,i4,i5,i6,i7,i8,i8',i9⟩:=in_has km
 have e0:m.2.2.2.1=n.2.2.2.1:=by
  cases q:kindB m.1 0
  ·rw [hm.sq q,hn.sq (by rw [← h1]; exact q)]
  ·exact hall 0 (i0 q)
 have e1:m.2.2.2.2.1=n.2.2.2.2.1:=by
  cases q:kindB m.1 1
  ·rw [hm.wh q,hn.wh (by rw [← h1]; exact q)]
  ·exact hall 4 (i1 q)
 have e2:m.2.2.2.2.2.1=n.2.2.2.2.2.1∧m.2.2.2.2.2.2.1=n.2.2.2.2.2.2.1:=by
  cases q:kindB m.1 2
  ·rw [hm.ki q,hn.ki (by rw [← h1]; exact q),hm.ks q,hn.ks (by rw [← h1]; exact q)]; exact ⟨rfl,rfl⟩
  ·exact hall 5 (i2 q)
 have e3:m.2.2.2.2.2.2.2.1=n.2.2.2.2.2.2.2.1:=by
  cases q:kindB m.1 3
  ·rw [hm.nw q,hn.nw (by rw [← h1]; exact q)]
  ·exact hall 6 (i3 q)
 have e4:m.2.2.2.2.2.2.2.2.1=n.2.2.2.2.2.2.2.2.1:=by
  cases q:kindB m.1 4
  ·rw [hm.tb q,hn.tb (by rw [← h1]; exact q)]
  ·exact hall 7 (i4 q)
 have e5:m.2.2.2.2.2.2.2.2.2.1=n.2.2.2.2.2.2.2.2.2.1:=by
  cases q:kindB m.1 5
  ·rw [hm.ep q,hn.ep (by rw [← h1]; exact q)]
  ·exact hall 1 (i5 q)
 have e6:m.2.2.2.2.2.2.2.2.2.2.1=n.2.2.2.2.2.2.2.2.2.2.1:=by
  cases q:kindB m.1 6
  ·rw [hm.bo q,hn.bo (by rw [← h1]; exact q)]
  ·exact hall 2 (i6 q)
 have e7:m.2.2.2.2.2.2.2.2.2.2.2.1=n.2.2.2.2.2.2.2.2.2.2.2.1:=by
  cases q:kindB m.1 7
  ·rw [hm.ak q,hn.ak (by rw [← h1]; exact q)]
  ·exact hall 8 (i7 q)
 have e8:m.2.2.2.2.2.2.2.2.2.2.2.2.1.toList=n.2.2.2.2.2.2.2.2.2.2.2.2.1.toList:=by
  cases q:kindB m.1 8
  ·rw [hm.tk q,hn.tk (by rw [← h1]; exact q)]
  ·exact hall 9 (i8 q)
 have e9:m.2.2.2.2.2.2.2.2.2.2.2.2.2.1=n.2.2.2.2.2.2.2.2.2.2.2.2.2.1:=by
  cases q:kindB m.1 8
  ·rw [hm.tn q,hn.tn (by rw [← h1]; exact q)]
  ·exact hall 3 (i8' q)
 have e10:m.2.2.2.2.2.2.2.2.2.2.2.2.2.2=n.2.2.2.2.2.2.2.2.2.2.2.2.2.2:=by
  cases q:kindB m.1 9
  ·rw [hm.gd q,hn.gd (by rw [← h1]; exact q)]
  ·exact hall 10 (i9 q)
 unfold sameB
 rw [h1,h3,h5,e0,e1,e2.1,e2.2,e3,e4,e5,e6,e7,e8,e9,e10]
 simp
theorem same_eq {m n:MB} (h:sameB m n=true):m=n:=by
 obtain ⟨k,fr,to,sq,wh,ki,ks,nw,tb,ep,bo,ak,tk,tn,gd⟩:=m
 obtain ⟨k',fr',to',sq',wh',ki',ks',nw',tb',ep',bo',ak',tk',tn',gd'⟩:=n
 unfold sameB at h
 simp only [Bool.and_eq_true,decide_eq_true_eq,beq_iff_eq] at h
 obtain ⟨rfl,rfl,rfl,rfl,rfl,rfl,rfl,rfl,rfl,rfl,rfl,rfl,h,rfl,rfl⟩:=h
 rw [toList_inj h]
end Go.Proofs.Ytgbcankkfmhcoaa.VL
end
section
namespace Go.Proofs.Ytgbcankkfmhcoaa.VL
open Go
set_option maxRecDepth 100000
set_option linter.unusedVariables false
set_option linter.unusedSectionVars false
variable [Val]
noncomputable section
def xf18:FX:=⟨(.seq (.reg [⟨⟨(some 2),(.alloc 0 (.agg [(.v (.int .i64 0)),(.v (.int .i64 0)),(.v (.int .i64 0)),(.v (.int .u64 0)),(.v (.int .i64 0)),(.v (.int .u64 0)),(.v (.int .i64 0)),(.sl true []),(.sl true []),(.v (.int .u64 0)),(.v (.int .u64 0)),(.v (.int .i64 0)),(.v (.string ⟨#[]⟩)),(.v (.int .u64 0)),(.v (.bool false))])),none⟩,.b,[],[]⟩,⟨⟨(some 3),(.mov (.c (.v (.int .i64 0)))),none⟩,.b,[],[]⟩]) (.seq (.reg [⟨⟨(some 11),(.mov (.t 0)),none⟩,.b,[],[]⟩,⟨⟨(some 12),(.call 1 38 [(.t 11)]),none⟩,.b,[],[]⟩,⟨⟨(some 10),(.mov (.t 12)),none⟩,.b,[],[]⟩,⟨⟨(some 13),(.ext (.t 10) 0),none⟩,.b,[],[]⟩,⟨⟨(some 14),(.ext (.t 10) 1),none⟩,.b,[],[]⟩,⟨⟨(some 0),(.mov (.t 13)),none⟩,.b,[],[]⟩,⟨⟨(some 4),(.mov (.t 14)),none⟩,.b,[],[]⟩]) (.seq (.seq (.reg [⟨⟨(some 15),(.mov (.t 4)),none⟩,.b,[],[]⟩,⟨⟨(some 16),(.bin .neq (.t 15) (.c (.v (.int .i64 0)))),none⟩,.b,[],[]⟩]) (.cond (.t 16) (.seq (.reg [⟨⟨(some 17),(.bld [(.v (.int .i64 0)),(.v (.int .i64 0)),(.v (.int .i64 0)),(.v (.int .u64 0)),(.v (.int .i64 0)),(.v (.int .u64 0)),(.v (.int .i64 0)),(.sl true []),(.sl true []),(.v (.int .u64 0)),(.v (.int .u64 0)),(.v (.int .i64 0)),(.v (.string ⟨#[]⟩)),(.v (.int .u64 0)),(.v (.bool false))] []),none⟩,.b,[],[]⟩,⟨⟨(some 18),(.mov (.t 4)),none⟩,.b,[],[]⟩,⟨⟨none,(.store 15 (.t 2) (.t 17)),none⟩,.b,[],[]⟩,⟨⟨(some 3),(.mov (.t 18)),none⟩,.b,[],[]⟩]) .ret) .skip)) (.seq (.reg [⟨⟨(some 19),(.mov (.t 0)),none⟩,.b,[],[]⟩,⟨⟨(some 20),(.bld [(.v (.string ⟨#[]⟩)),(.v (.int .i64 0)),(.v (.bool false))] [(0,1,(.t 19)),(2,1,(.c (.v (.bool true))))]),none⟩,.b,[],[]⟩,⟨⟨(some 21),(.box 2 3 (.t 20)),none⟩,.b,[],[]⟩,⟨⟨(some 5),(.mov (.t 21)),none⟩,.b,[],[]⟩]) (.seq (.reg [⟨⟨(some 22),(.mov (.t 5)),none⟩,.b,[],[]⟩,⟨⟨(some 23),(.call 3 39 [(.t 22)]),none⟩,.b,[],[]⟩,⟨⟨(some 24),(.mov (.t 5)),none⟩,.b,[],[]⟩,⟨⟨(some 25),(.call 4 39 [(.t 24)]),none⟩,.b,[],[]⟩,⟨⟨(some 26),(.mov (.t 5)),none⟩,.b,[],[]⟩,⟨⟨(some 27),(.call 5 39 [(.t 26)]),none⟩,.b,[],[]⟩,⟨⟨(some 28),(.bld [(.v (.int .i64 0)),(.v (.int .i64 0)),(.v (.int .i64 0)),(.v (.int .u64 0)),(.v (.int .i64 0)),(.v (.int .u64 0)),(.v (.int .i64 0)),(.sl true []),(.sl true []),(.v (.int .u64 0)),(.v (.int .u64 0)),(.v (.int .i64 0)),(.v (.string ⟨#[]⟩)),(.v (.int .u64 0)),(.v (.bool false))] [(0,1,(.t 23)),(1,1,(.t 25)),(2,1,(.t 27))]),none⟩,.b,[],[]⟩,⟨⟨(some 6),(.alloc 6 (.agg [(.v (.int .i64 0)),(.v (.int .i64 0)),(.v (.int .i64 0)),(.v (.int .u64 0)),(.v (.int .i64 0)),(.v (.int .u64 0)),(.v (.int .i64 0)),(.sl true []),(.sl true []),(.v (.int .u64 0)),(.v (.int .u64 0)),(.v (.int .i64 0)),(.v (.string ⟨#[]⟩)),(.v (.int .u64 0)),(.v (.bool false))])),none⟩,.b,[],[]⟩,⟨⟨none,(.store 15 (.t 6) (.t 28)),none⟩,.b,[],[]⟩]) (.seq (.reg [⟨⟨(some 29),(.call 7 23 []),none⟩,.b,[],[]⟩,⟨⟨(some 7),(.mov (.t 29)),none⟩,.b,[],[]⟩]) (.seq (.cutN ⟨[9,30,31,32,33,34,35,36,37,38,39,40,41,42,43,44],[2,6,42,43,44,45,46,47,48,49,50,51,52,53,54,55,56,57,58,59,60,61,62,63,64,65,66,67,68,69,70,71,72,73,74,75,76,77,78,79,80,81,82,83,84,85,86,87,88,89,90,91,92,93,94,95,96,97,98,99,100,101,102,103,104,105,106,107,108,109,110,111,112,113,114,115,116,117,118,119,120,121,122,123,124,125,126,127,128,129],⟨[],[],[⟨2,.row (.v (.p .s (.p (.i .i64) .b))),true⟩,⟨6,.row (.agg (.co (.v (.i .i64)) (.co (.v (.i .i64)) (.co (.v (.i .i64)) (.co (.v (.i .u64)) (.co (.v (.i .i64)) (.co (.v (.i .u64)) (.co (.v (.i .i64)) (.co (.ow 42 3) (.co (.ow 43 2) (.co (.v (.i .u64)) (.co (.v (.i .u64)) (.co (.v (.i .i64)) (.co (.v .s) (.co (.v (.i .u64)) (.co (.v .b) .no)))))))))))))))),true⟩,⟨42,.rows (.p (.i .i64) (.p (.i .u64) (.i .i64))) 3,false⟩,⟨43,.rows (.p (.i .u64) (.i .i64)) 2,false⟩]⟩⟩ (.seq (.reg [⟨⟨(some 30),(.fad 0 (.t 6)),none⟩,.b,[],[]⟩,⟨⟨(some 31),(.load false 1 (.t 30)),none⟩,.b,[],[]⟩,⟨⟨(some 32),(.call 8 24 [(.t 31)]),none⟩,.b,[],[]⟩,⟨⟨(some 33),(.len (.t 32)),none⟩,.b,[],[]⟩,⟨⟨(some 34),(.mov (.c (.v (.int .i64 0)))),none⟩,.b,[],[]⟩]) (.blk 0 (.loop ⟨[9,34,35,36,37,38,39,40,41,42,43,44],[2,6,42,43,44,45,46,47,48,49,50,51,52,53,54,55,56,57,58,59,60,61,62,63,64,65,66,67,68,69,70,71,72,73,74,75,76,77,78,79,80,81,82,83,84,85,86,87,88,89,90,91,92,93,94,95,96,97,98,99,100,101,102,103,104,105,106,107,108,109,110,111,112,113,114,115,116,117,118,119,120,121,122,123,124,125,126,127,128,129],⟨[],[(34,.v (.i .i64))],[⟨2,.row (.v (.p .s (.p (.i .i64) .b))),true⟩,⟨6,.row (.agg (.co (.v (.i .i64)) (.co (.v (.i .i64)) (.co (.v (.i .i64)) (.co (.v (.i .u64)) (.co (.v (.i .i64)) (.co (.v (.i .u64)) (.co (.v (.i .i64)) (.co (.ow 42 3) (.co (.ow 43 2) (.co (.v (.i .u64)) (.co (.v (.i .u64)) (.co (.v (.i .i64)) (.co (.v .s) (.co (.v (.i .u64)) (.co (.v .b) .no)))))))))))))))),true⟩,⟨42,.rows (.p (.i .i64) (.p (.i .u64) (.i .i64))) 3,false⟩,⟨43,.rows (.p (.i .u64) (.i .i64)) 2,false⟩]⟩⟩ (.seq (.reg [⟨⟨(some 35),(.bin .lss (.t 34) (.t 33)),none⟩,.b,[],[]⟩]) (.seq (.cond (.t 35) .skip (.exit 0)) (.seq (.blk 1 (.seq (.reg [⟨⟨(some 36),(.iad 1 (.t 32) (.t 34)),none⟩,.b,[],[]⟩,⟨⟨(some 37),(.load false 1 (.t 36)),none⟩,.b,[],[]⟩,⟨⟨(some 9),(.mov (.t 37)),none⟩,.b,[],[]⟩]) (.reg [⟨⟨(some 38),(.mov (.t 7)),none⟩,.b,[],[]⟩,⟨⟨(some 39),(.mov (.t 9)),none⟩,.b,[],[]⟩,⟨⟨(some 40),(.lkp false .s (.agg [(.v .nilFunc),(.v .nilFunc),(.v .nilFunc)]) (.t 38) (.t 39)),none⟩,.b,[],[]⟩,⟨⟨(some 41),(.fld false 2 1 (.t 40)),none⟩,.b,[],[]⟩,⟨⟨(some 42),(.mov (.t 5)),none⟩,.b,[],[]⟩,⟨⟨(some 43),(.callv 9 (.t 41) [(.t 42),(.t 6)]),none⟩,.b,[],[]⟩]))) (.reg [⟨⟨(some 44),(.bin .add (.t 34) (.c (.v (.int .i64 1)))),none⟩,.b,[],[]⟩,⟨⟨(some 34),(.mov (.t 44)),none⟩,.b,[],[]⟩])))))))) (.seq (.seq (.cutN ⟨[45,46,47,48,49,50,51,52,53,54,55,56,57,58,59,60,61,62,63],[],⟨[],[(63,.v .b)],[]⟩⟩ (.reg [⟨⟨(some 45),(.mov (.t 5)),none⟩,.b,[],[]⟩,⟨⟨(some 46),(.nilc (.t 45)),none⟩,.b,[],[]⟩,⟨⟨(some 47),(.fad 2 (.t 46)),none⟩,.b,[],[]⟩,⟨⟨(some 48),(.load false 1 (.t 47)),none⟩,.b,[],[]⟩,⟨⟨(some 49),(.un .not (.t 48)),none⟩,.b,[],[]⟩,⟨⟨(some 50),(.mov (.t 49)),none⟩,.b,[],[]⟩,⟨⟨(some 51),(.mov (.t 5)),(some (50,false))⟩,.b,[],[]⟩,⟨⟨(some 52),(.nilc (.t 51)),(some (50,false))⟩,.b,[],[]⟩,⟨⟨(some 53),(.fad 1 (.t 52)),(some (50,false))⟩,.b,[],[]⟩,⟨⟨(some 54),(.load false 1 (.t 53)),(some (50,false))⟩,.b,[],[]⟩,⟨⟨(some 55),(.mov (.t 0)),(some (50,false))⟩,.b,[],[]⟩,⟨⟨(some 56),(.lenS (.t 55)),(some (50,false))⟩,.b,[],[]⟩,⟨⟨(some 57),(.bin .neq (.t 54) (.t 56)),(some (50,false))⟩,.b,[],[]⟩,⟨⟨(some 58),(.pick (.t 50) (.c (.v (.bool true))) (.t 57)),none⟩,.b,[],[]⟩,⟨⟨(some 59),(.mov (.t 58)),none⟩,.b,[],[]⟩,⟨⟨(some 60),(.load true 15 (.t 6)),(some (59,false))⟩,.b,[],[]⟩,⟨⟨(some 61),(.call 10 11 [(.t 60)]),(some (59,false))⟩,.b,[],[]⟩,⟨⟨(some 62),(.bin .neq (.t 61) (.c (.v (.int .i64 0)))),(some (59,false))⟩,.b,[],[]⟩,⟨⟨(some 63),(.pick (.t 59) (.c (.v (.bool true))) (.t 62)),none⟩,.b,[],[]⟩])) (.cond (.t 63) (.seq (.reg [⟨⟨(some 64),(.bld [(.v (.int .i64 0)),(.v (.int .i64 0)),(.v (.int .i64 0)),(.v (.int .u64 0)),(.v (.int .i64 0)),(.v (.int .u64 0)),(.v (.int .i64 0)),(.sl true []),(.sl true []),(.v (.int .u64 0)),(.v (.int .u64 0)),(.v (.int .i64 0)),(.v (.string ⟨#[]⟩)),(.v (.int .u64 0)),(.v (.bool false))] []),none⟩,.b,[],[]⟩,⟨⟨none,(.store 15 (.t 2) (.t 64)),none⟩,.b,[],[]⟩,⟨⟨(some 3),(.mov (.c (.v (.int .i64 2)))),none⟩,.b,[],[]⟩]) .ret) .skip)) (.seq (.reg [⟨⟨(some 65),(.load true 15 (.t 6)),none⟩,.b,[],[]⟩,⟨⟨none,(.store 15 (.t 2) (.t 65)),none⟩,.b,[],[]⟩,⟨⟨(some 3),(.mov (.c (.v (.int .i64 0)))),none⟩,.b,[],[]⟩]) .ret))))))))),[2,12,21,23,25,27,6,29,32,43,61],66,[.c 2 28 true 15,.t 3],130⟩
theorem xf18_ok:xf18.ok Try.prog 18:=⟨_,_,Try.func18,rfl,by kernel_rfl,rfl,by kernel_rfl,rfl,by kernel_rfl,by kernel_rfl⟩
def fh39:FX:=⟨(.seq (.reg [⟨⟨(some 2),(.mov (.c (.v (.int .i64 0)))),none⟩,.b,[],[]⟩]) (.seq (.reg [⟨⟨(some 4),(.mov (.t 0)),none⟩,.b,[],[]⟩,⟨⟨(some 5),(.call 0 50 [(.t 4)]),none⟩,.b,[],[]⟩,⟨⟨(some 3),(.mov (.t 5)),none⟩,.b,[],[]⟩]) (.seq (.seq (.reg [⟨⟨(some 6),(.mov (.t 3)),none⟩,.b,[],[]⟩,⟨⟨(some 7),(.bin .gtr (.t 6) (.c (.v (.int .u64 1048576)))),none⟩,.b,[],[]⟩]) (.cond (.t 7) (.seq (.reg [⟨⟨(some 8),(.mov (.t 0)),none⟩,.b,[],[]⟩,⟨⟨(some 9),(.nilc (.t 8)),none⟩,.b,[],[]⟩,⟨⟨(some 10),(.fad 2 (.t 9)),none⟩,.b,[],[]⟩,⟨⟨none,(.store 1 (.t 10) (.c (.v (.bool false)))),none⟩,.b,[],[]⟩]) (.seq (.reg [⟨⟨(some 2),(.mov (.c (.v (.int .i64 0)))),none⟩,.b,[],[]⟩]) .ret)) .skip)) (.seq (.reg [⟨⟨(some 11),(.mov (.t 3)),none⟩,.b,[],[]⟩,⟨⟨(some 12),(.conv .i64 (.t 11)),none⟩,.b,[],[]⟩,⟨⟨(some 2),(.mov (.t 12)),none⟩,.b,[],[]⟩]) .ret)))),[5],13,[.t 2],2⟩
theorem fh39_ok:fh39.ok Try.prog 39:=⟨_,_,Try.func39,rfl,by kernel_rfl,rfl,by kernel_rfl,rfl,by kernel_rfl,by kernel_rfl⟩
def fh23:FX:=⟨(.seq (.reg [⟨⟨(some 0),(.mov (.c (.v (.map none)))),none⟩,.b,[],[]⟩]) (.seq (.reg [⟨⟨(some 1),(.mov (.c (.clo 46 [] []))),none⟩,.b,[],[]⟩]) (.seq (.reg [⟨⟨(some 2),(.mkm 0),none⟩,.b,[],[]⟩,⟨⟨(some 3),(.mov (.t 1)),none⟩,.b,[],[]⟩,⟨⟨(some 4),(.callv 1 (.t 3) [(.c (.clo 51 [] []))]),none⟩,.b,[],[]⟩,⟨⟨none,(.mup .s (.t 2) (.c (.v (.string ⟨#[115,101,113]⟩))) (.t 4)),none⟩,.b,[],[]⟩,⟨⟨(some 5),(.mov (.t 1)),none⟩,.b,[],[]⟩,⟨⟨(some 6),(.callv 2 (.t 5) [(.c (.clo 52 [] []))]),none⟩,.b,[],[]⟩,⟨⟨none,(.mup .s (.t 2) (.c (.v (.string ⟨#[101,112,111,99,104]⟩))) (.t 6)),none⟩,.b,[],[]⟩,⟨⟨(some 7),(.mov (.t 1)),none⟩,.b,[],[]⟩,⟨⟨(some 8),(.callv 3 (.t 7) [(.c (.clo 53 [] []))]),none⟩,.b,[],[]⟩,⟨⟨none,(.mup .s (.t 2) (.c (.v (.string ⟨#[98,111,111,116]⟩))) (.t 8)),none⟩,.b,[],[]⟩,⟨⟨(some 9),(.mov (.t 1)),none⟩,.b,[],[]⟩,⟨⟨(some 10),(.callv 4 (.t 9) [(.c (.clo 54 [] []))]),none⟩,.b,[],[]⟩,⟨⟨none,(.mup .s (.t 2) (.c (.v (.string ⟨#[116,111,107,101,110]⟩))) (.t 10)),none⟩,.b,[],[]⟩,⟨⟨(some 11),(.bld [(.v .nilFunc),(.v .nilFunc),(.v .nilFunc)] [(0,1,(.c (.clo 55 [] []))),(1,1,(.c (.clo 56 [] []))),(2,1,(.c (.clo 57 [] [])))]),none⟩,.b,[],[]⟩,⟨⟨none,(.mup .s (.t 2) (.c (.v (.string ⟨#[119,104,111]⟩))) (.t 11)),none⟩,.b,[],[]⟩,⟨⟨(some 12),(.bld [(.v .nilFunc),(.v .nilFunc),(.v .nilFunc)] [(0,1,(.c (.clo 58 [] []))),(1,1,(.c (.clo 60 [] []))),(2,1,(.c (.clo 62 [] [])))]),none⟩,.b,[],[]⟩,⟨⟨none,(.mup .s (.t 2) (.c (.v (.string ⟨#[107]⟩))) (.t 12)),none⟩,.b,[],[]⟩,⟨⟨(some 13),(.bld [(.v .nilFunc),(.v .nilFunc),(.v .nilFunc)] [(0,1,(.c (.clo 64 [] []))),(1,1,(.c (.clo 65 [] []))),(2,1,(.c (.clo 66 [] [])))]),none⟩,.b,[],[]⟩,⟨⟨none,(.mup .s (.t 2) (.c (.v (.string ⟨#[110,101,119,115]⟩))) (.t 13)),none⟩,.b,[],[]⟩,⟨⟨(some 14),(.bld [(.v .nilFunc),(.v .nilFunc),(.v .nilFunc)] [(0,1,(.c (.clo 67 [] []))),(1,1,(.c (.clo 69 [] []))),(2,1,(.c (.clo 70 [] [])))]),none⟩,.b,[],[]⟩,⟨⟨none,(.mup .s (.t 2) (.c (.v (.string ⟨#[116,97,98,108,101]⟩))) (.t 14)),none⟩,.b,[],[]⟩,⟨⟨(some 15),(.bld [(.v .nilFunc),(.v .nilFunc),(.v .nilFunc)] [(0,1,(.c (.clo 72 [] []))),(1,1,(.c (.clo 73 [] []))),(2,1,(.c (.clo 74 [] [])))]),none⟩,.b,[],[]⟩,⟨⟨none,(.mup .s (.t 2) (.c (.v (.string ⟨#[97,115,107,101,100]⟩))) (.t 15)),none⟩,.b,[],[]⟩,⟨⟨(some 16),(.bld [(.v .nilFunc),(.v .nilFunc),(.v .nilFunc)] [(0,1,(.c (.clo 75 [] []))),(1,1,(.c (.clo 76 [] []))),(2,1,(.c (.clo 77 [] [])))]),none⟩,.b,[],[]⟩,⟨⟨none,(.mup .s (.t 2) (.c (.v (.string ⟨#[116,97,115,107]⟩))) (.t 16)),none⟩,.b,[],[]⟩,⟨⟨(some 17),(.bld [(.v .nilFunc),(.v .nilFunc),(.v .nilFunc)] [(0,1,(.c (.clo 47 [] []))),(1,1,(.c (.clo 78 [] []))),(2,1,(.c (.clo 80 [] [])))]),none⟩,.b,[],[]⟩,⟨⟨none,(.mup .s (.t 2) (.c (.v (.string ⟨#[103,111,111,100]⟩))) (.t 17)),none⟩,.b,[],[]⟩,⟨⟨(some 18),(.mov (.t 2)),none⟩,.b,[],[]⟩,⟨⟨(some 0),(.mov (.t 18)),none⟩,.b,[],[]⟩]) .ret))),[2,4,6,8,10],19,[.t 0],6⟩
theorem fh23_ok:fh23.ok Try.prog 23:=⟨_,_,Try.func23,rfl,by kernel_rfl,rfl,by kernel_rfl,rfl,by kernel_rfl,by kernel_rfl⟩
def fh49:FX:=⟨(.reg [⟨⟨(some 5),(.load false 1 (.t 2)),none⟩,.b,[],[]⟩,⟨⟨(some 6),(.mov (.t 1)),none⟩,.b,[],[]⟩,⟨⟨(some 7),(.callv 0 (.t 5) [(.t 6)]),none⟩,.b,[],[]⟩,⟨⟨(some 8),(.mov (.t 0)),none⟩,.b,[],[]⟩,⟨⟨(some 9),(.call 1 50 [(.t 8)]),none⟩,.b,[],[]⟩,⟨⟨(some 10),(.nilc (.t 7)),none⟩,.b,[],[]⟩,⟨⟨none,(.store 1 (.t 10) (.t 9)),none⟩,.b,[],[]⟩]),[7,9],11,[],3⟩
theorem fh49_ok:fh49.ok Try.prog 49:=⟨_,_,Try.func49,rfl,by kernel_rfl,rfl,by kernel_rfl,rfl,by kernel_rfl,by kernel_rfl⟩
def fh57:FX:=⟨(.reg [⟨⟨(some 4),(.mov (.t 1)),none⟩,.b,[],[]⟩,⟨⟨(some 5),(.mov (.t 0)),none⟩,.b,[],[]⟩,⟨⟨(some 6),(.call 0 39 [(.t 5)]),none⟩,.b,[],[]⟩,⟨⟨(some 7),(.nilc (.t 4)),none⟩,.b,[],[]⟩,⟨⟨(some 8),(.fad 4 (.t 7)),none⟩,.b,[],[]⟩,⟨⟨none,(.store 1 (.t 8) (.t 6)),none⟩,.b,[],[]⟩]),[6],9,[],2⟩
theorem fh57_ok:fh57.ok Try.prog 57:=⟨_,_,Try.func57,rfl,by kernel_rfl,rfl,by kernel_rfl,rfl,by kernel_rfl,by kernel_rfl⟩
def fh62:FX:=⟨(.reg [⟨⟨(some 4),(.mov (.t 1)),none⟩,.b,[],[]⟩,⟨⟨(some 5),(.mov (.t 0)),none⟩,.b,[],[]⟩,⟨⟨(some 6),(.call 0 63 [(.t 5)]),none⟩,.b,[],[]⟩,⟨⟨(some 7),(.nilc (.t 4)),none⟩,.b,[],[]⟩,⟨⟨(some 8),(.fad 5 (.t 7)),none⟩,.b,[],[]⟩,⟨⟨none,(.store 2 (.t 8) (.t 6)),none⟩,.b,[],[]⟩]),[6],9,[],2⟩
theorem fh62_ok:fh62.ok Try.prog 62:=⟨_,_,Try.func62,rfl,by kernel_rfl,rfl,by kernel_rfl,rfl,by kernel_rfl,by kernel_rfl⟩
def fh66:FX:=⟨(.seq (.reg [⟨⟨(some 5),(.mov (.t 0)),none⟩,.b,[],[]⟩,⟨⟨(some 6),(.call 0 71 [(.t 5),(.c (.v (.int .i64 8)))]),none⟩,.b,[],[]⟩,⟨⟨(some 7),(.mov (.c (.v (.int .i64 0)))),none⟩,.b,[],[]⟩]) (.blk 0 (.loop ⟨[4,7,8,9,10,11,12,13,14,15,16,17,18,19,20,21,22,23,24],[2,6,42,74,82,83,84,85,86,87,88,89,90,91,92,93,94,95],⟨[],[(7,.v (.i .i64))],[⟨2,.row (.v (.p .s (.p (.i .i64) .b))),true⟩,⟨6,.row (.agg (.co (.v (.i .i64)) (.co (.v (.i .i64)) (.co (.v (.i .i64)) (.co (.v (.i .u64)) (.co (.v (.i .i64)) (.co (.v (.i .u64)) (.co (.v (.i .i64)) (.co (.ow 42 3) (.co (.ow 43 2) (.co (.v (.i .u64)) (.co (.v (.i .u64)) (.co (.v (.i .i64)) (.co (.v .s) (.co (.v (.i .u64)) (.co (.v .b) .no)))))))))))))))),true⟩,⟨42,.rows (.p (.i .i64) (.p (.i .u64) (.i .i64))) 3,false⟩]⟩⟩ (.seq (.reg [⟨⟨(some 8),(.bin .lss (.t 7) (.t 6)),none⟩,.b,[],[]⟩]) (.seq (.cond (.t 8) .skip (.exit 0)) (.seq (.blk 1 (.seq (.reg [⟨⟨(some 9),(.mov (.t 0)),none⟩,.b,[],[]⟩,⟨⟨(some 10),(.call 1 39 [(.t 9)]),none⟩,.b,[],[]⟩,⟨⟨(some 4),(.mov (.t 10)),none⟩,.b,[],[]⟩]) (.dr [(4,7)] [⟨⟨(some 11),(.mov (.t 1)),none⟩,.b,[],[]⟩,⟨⟨(some 12),(.mov (.t 1)),none⟩,.b,[],[]⟩,⟨⟨(some 13),(.nilc (.t 12)),none⟩,.b,[],[]⟩,⟨⟨(some 14),(.fad 7 (.t 13)),none⟩,.b,[],[]⟩,⟨⟨(some 15),(.load false 1 (.t 14)),none⟩,.b,[],[]⟩,⟨⟨(some 16),(.mov (.t 4)),none⟩,.b,[],[]⟩,⟨⟨(some 17),(.mov (.t 0)),none⟩,.b,[],[]⟩,⟨⟨(some 18),(.callG 2 63 [(.t 17)]),none⟩,.b,[],[2,86,87,88,89,90,91,92,93,94,95]⟩,⟨⟨(some 19),(.bld [(.v (.int .i64 0)),(.v (.int .u64 0)),(.v (.int .i64 0))] [(0,1,(.t 16)),(1,2,(.t 18))]),none⟩,.b,[],[]⟩,⟨⟨(some 20),(.bsl 3 (.agg [(.v (.int .i64 0)),(.v (.int .u64 0)),(.v (.int .i64 0))]) 1 [(0,(.t 19))]),none⟩,.b,[],[]⟩,⟨⟨(some 21),(.app 3 3 24 (.agg [(.v (.int .i64 0)),(.v (.int .u64 0)),(.v (.int .i64 0))]) (.t 15) (.t 20)),none⟩,(.p (.i .i64) (.p (.i .u64) (.i .i64))),[],[]⟩,⟨⟨(some 22),(.nilc (.t 11)),none⟩,.b,[],[]⟩,⟨⟨(some 23),(.fad 7 (.t 22)),none⟩,.b,[],[]⟩,⟨⟨none,(.store 1 (.t 23) (.t 21)),none⟩,.b,[],[]⟩]))) (.reg [⟨⟨(some 24),(.bin .add (.t 7) (.c (.v (.int .i64 1)))),none⟩,.b,[],[]⟩,⟨⟨(some 7),(.mov (.t 24)),none⟩,.b,[],[]⟩]))))))),[6,10,18,21],25,[],5⟩
theorem fh66_ok:fh66.ok Try.prog 66:=⟨_,_,Try.func66,rfl,by kernel_rfl,rfl,by kernel_rfl,rfl,by kernel_rfl,by kernel_rfl⟩
def fh70:FX:=⟨(.seq (.reg [⟨⟨(some 4),(.mov (.t 0)),none⟩,.b,[],[]⟩,⟨⟨(some 5),(.call 0 71 [(.t 4),(.c (.v (.int .i64 64)))]),none⟩,.b,[],[]⟩,⟨⟨(some 6),(.mov (.c (.v (.int .i64 0)))),none⟩,.b,[],[]⟩]) (.blk 0 (.loop ⟨[6,7,8,9,10,11,12,13,14,15,16,17,18,19],[2,6,43,98,106,107,108,109,110,111,112,113,114,115],⟨[],[(6,.v (.i .i64))],[⟨2,.row (.v (.p .s (.p (.i .i64) .b))),true⟩,⟨6,.row (.agg (.co (.v (.i .i64)) (.co (.v (.i .i64)) (.co (.v (.i .i64)) (.co (.v (.i .u64)) (.co (.v (.i .i64)) (.co (.v (.i .u64)) (.co (.v (.i .i64)) (.co (.ow 42 3) (.co (.ow 43 2) (.co (.v (.i .u64)) (.co (.v (.i .u64)) (.co (.v (.i .i64)) (.co (.v .s) (.co (.v (.i .u64)) (.co (.v .b) .no)))))))))))))))),true⟩,⟨43,.rows (.p (.i .u64) (.i .i64)) 2,false⟩]⟩⟩ (.seq (.reg [⟨⟨(some 7),(.bin .lss (.t 6) (.t 5)),none⟩,.b,[],[]⟩]) (.seq (.cond (.t 7) .skip (.exit 0)) (.seq (.blk 1 (.dr [(4,6)] [⟨⟨(some 8),(.mov (.t 1)),none⟩,.b,[],[]⟩,⟨⟨(some 9),(.mov (.t 1)),none⟩,.b,[],[]⟩,⟨⟨(some 10),(.nilc (.t 9)),none⟩,.b,[],[]⟩,⟨⟨(some 11),(.fad 8 (.t 10)),none⟩,.b,[],[]⟩,⟨⟨(some 12),(.load false 1 (.t 11)),none⟩,.b,[],[]⟩,⟨⟨(some 13),(.mov (.t 0)),none⟩,.b,[],[]⟩,⟨⟨(some 14),(.callG 1 63 [(.t 13)]),none⟩,.b,[],[2,106,107,108,109,110,111,112,113,114,115]⟩,⟨⟨(some 15),(.bsl 2 (.agg [(.v (.int .u64 0)),(.v (.int .i64 0))]) 1 [(0,(.t 14))]),none⟩,.b,[],[]⟩,⟨⟨(some 16),(.app 2 2 16 (.agg [(.v (.int .u64 0)),(.v (.int .i64 0))]) (.t 12) (.t 15)),none⟩,(.p (.i .u64) (.i .i64)),[],[]⟩,⟨⟨(some 17),(.nilc (.t 8)),none⟩,.b,[],[]⟩,⟨⟨(some 18),(.fad 8 (.t 17)),none⟩,.b,[],[]⟩,⟨⟨none,(.store 1 (.t 18) (.t 16)),none⟩,.b,[],[]⟩])) (.reg [⟨⟨(some 19),(.bin .add (.t 6) (.c (.v (.int .i64 1)))),none⟩,.b,[],[]⟩,⟨⟨(some 6),(.mov (.t 19)),none⟩,.b,[],[]⟩]))))))),[5,14,16],20,[],4⟩
theorem fh70_ok:fh70.ok Try.prog 70:=⟨_,_,Try.func70,rfl,by kernel_rfl,rfl,by kernel_rfl,rfl,by kernel_rfl,by kernel_rfl⟩
def fh74:FX:=⟨(.reg [⟨⟨(some 4),(.mov (.t 1)),none⟩,.b,[],[]⟩,⟨⟨(some 5),(.mov (.t 0)),none⟩,.b,[],[]⟩,⟨⟨(some 6),(.call 0 50 [(.t 5)]),none⟩,.b,[],[]⟩,⟨⟨(some 7),(.conv .i64 (.t 6)),none⟩,.b,[],[]⟩,⟨⟨(some 8),(.nilc (.t 4)),none⟩,.b,[],[]⟩,⟨⟨(some 9),(.fad 11 (.t 8)),none⟩,.b,[],[]⟩,⟨⟨none,(.store 1 (.t 9) (.t 7)),none⟩,.b,[],[]⟩]),[6],10,[],2⟩
theorem fh74_ok:fh74.ok Try.prog 74:=⟨_,_,Try.func74,rfl,by kernel_rfl,rfl,by kernel_rfl,rfl,by kernel_rfl,by kernel_rfl⟩
def fh77:FX:=⟨(.seq (.dr [] [⟨⟨(some 8),(.mov (.t 0)),none⟩,.b,[],[]⟩,⟨⟨(some 9),(.nilc (.t 8)),none⟩,.b,[],[]⟩,⟨⟨(some 10),(.fad 0 (.t 9)),none⟩,.b,[],[]⟩,⟨⟨(some 11),(.load false 1 (.t 10)),none⟩,.b,[],[]⟩,⟨⟨(some 12),(.mov (.t 0)),none⟩,.b,[],[]⟩,⟨⟨(some 13),(.nilc (.t 12)),none⟩,.b,[],[]⟩,⟨⟨(some 14),(.fad 1 (.t 13)),none⟩,.b,[],[]⟩,⟨⟨(some 15),(.load false 1 (.t 14)),none⟩,.b,[],[]⟩,⟨⟨(some 16),(.callG 0 89 [(.t 11),(.t 15)]),none⟩,.b,[],[]⟩,⟨⟨(some 7),(.mov (.t 16)),none⟩,.b,[],[]⟩,⟨⟨(some 17),(.ext (.t 7) 0),none⟩,.b,[],[]⟩,⟨⟨(some 18),(.ext (.t 7) 1),none⟩,.b,[],[]⟩,⟨⟨(some 19),(.ext (.t 7) 2),none⟩,.b,[],[]⟩,⟨⟨(some 4),(.mov (.t 17)),none⟩,.b,[],[]⟩,⟨⟨(some 5),(.mov (.t 18)),none⟩,.b,[],[]⟩,⟨⟨(some 6),(.mov (.t 19)),none⟩,.b,[],[]⟩]) (.seq (.seq (.reg [⟨⟨(some 20),(.mov (.t 6)),none⟩,.b,[],[]⟩,⟨⟨(some 21),(.bin .neq (.t 20) (.c (.v (.int .i64 0)))),none⟩,.b,[],[]⟩]) (.cond (.t 21) (.seq (.reg [⟨⟨(some 22),(.mov (.t 0)),none⟩,.b,[],[]⟩,⟨⟨(some 23),(.nilc (.t 22)),none⟩,.b,[],[]⟩,⟨⟨(some 24),(.fad 2 (.t 23)),none⟩,.b,[],[]⟩,⟨⟨none,(.store 1 (.t 24) (.c (.v (.bool false)))),none⟩,.b,[],[]⟩]) .ret) .skip)) (.reg [⟨⟨(some 25),(.mov (.t 1)),none⟩,.b,[],[]⟩,⟨⟨(some 26),(.mov (.t 0)),none⟩,.b,[],[]⟩,⟨⟨(some 27),(.mov (.t 4)),none⟩,.b,[],[]⟩,⟨⟨(some 28),(.mov (.t 5)),none⟩,.b,[],[]⟩,⟨⟨(some 29),(.nilc (.t 25)),none⟩,.b,[],[]⟩,⟨⟨(some 30),(.fad 12 (.t 29)),none⟩,.b,[],[]⟩,⟨⟨none,(.store 1 (.t 30) (.t 27)),none⟩,.b,[],[]⟩,⟨⟨(some 31),(.nilc (.t 26)),none⟩,.b,[],[]⟩,⟨⟨(some 32),(.fad 1 (.t 31)),none⟩,.b,[],[]⟩,⟨⟨none,(.store 1 (.t 32) (.t 28)),none⟩,.b,[],[]⟩]))),[16],33,[],2⟩
theorem fh77_ok:fh77.ok Try.prog 77:=⟨_,_,Try.func77,rfl,by kernel_rfl,rfl,by kernel_rfl,rfl,by kernel_rfl,by kernel_rfl⟩
def fh80:FX:=⟨(.reg [⟨⟨(some 4),(.mov (.t 1)),none⟩,.b,[],[]⟩,⟨⟨(some 5),(.mov (.t 0)),none⟩,.b,[],[]⟩,⟨⟨(some 6),(.call 0 71 [(.t 5),(.c (.v (.int .i64 1)))]),none⟩,.b,[],[]⟩,⟨⟨(some 7),(.bin .eql (.t 6) (.c (.v (.int .i64 1)))),none⟩,.b,[],[]⟩,⟨⟨(some 8),(.nilc (.t 4)),none⟩,.b,[],[]⟩,⟨⟨(some 9),(.fad 14 (.t 8)),none⟩,.b,[],[]⟩,⟨⟨none,(.store 1 (.t 9) (.t 7)),none⟩,.b,[],[]⟩]),[6],10,[],2⟩
theorem fh80_ok:fh80.ok Try.prog 80:=⟨_,_,Try.func80,rfl,by kernel_rfl,rfl,by kernel_rfl,rfl,by kernel_rfl,by kernel_rfl⟩
def fh50:FX:=⟨(.seq (.reg [⟨⟨(some 2),(.mov (.c (.v (.int .u64 0)))),none⟩,.b,[],[]⟩]) (.seq (.dr [] [⟨⟨(some 7),(.mov (.t 0)),none⟩,.b,[],[]⟩,⟨⟨(some 8),(.nilc (.t 7)),none⟩,.b,[],[]⟩,⟨⟨(some 9),(.fad 0 (.t 8)),none⟩,.b,[],[]⟩,⟨⟨(some 10),(.load false 1 (.t 9)),none⟩,.b,[],[]⟩,⟨⟨(some 11),(.mov (.t 0)),none⟩,.b,[],[]⟩,⟨⟨(some 12),(.nilc (.t 11)),none⟩,.b,[],[]⟩,⟨⟨(some 13),(.fad 1 (.t 12)),none⟩,.b,[],[]⟩,⟨⟨(some 14),(.load false 1 (.t 13)),none⟩,.b,[],[]⟩,⟨⟨(some 15),(.callG 0 85 [(.t 10),(.t 14)]),none⟩,.b,[],[]⟩,⟨⟨(some 6),(.mov (.t 15)),none⟩,.b,[],[]⟩,⟨⟨(some 16),(.ext (.t 6) 0),none⟩,.b,[],[]⟩,⟨⟨(some 17),(.ext (.t 6) 1),none⟩,.b,[],[]⟩,⟨⟨(some 18),(.ext (.t 6) 2),none⟩,.b,[],[]⟩,⟨⟨(some 3),(.mov (.t 16)),none⟩,.b,[],[]⟩,⟨⟨(some 4),(.mov (.t 17)),none⟩,.b,[],[]⟩,⟨⟨(some 5),(.mov (.t 18)),none⟩,.b,[],[]⟩]) (.seq (.seq (.reg [⟨⟨(some 19),(.mov (.t 5)),none⟩,.b,[],[]⟩,⟨⟨(some 20),(.bin .neq (.t 19) (.c (.v (.int .i64 0)))),none⟩,.b,[],[]⟩]) (.cond (.t 20) (.seq (.reg [⟨⟨(some 21),(.mov (.t 0)),none⟩,.b,[],[]⟩,⟨⟨(some 22),(.nilc (.t 21)),none⟩,.b,[],[]⟩,⟨⟨(some 23),(.fad 2 (.t 22)),none⟩,.b,[],[]⟩,⟨⟨none,(.store 1 (.t 23) (.c (.v (.bool false)))),none⟩,.b,[],[]⟩]) (.seq (.reg [⟨⟨(some 2),(.mov (.c (.v (.int .u64 0)))),none⟩,.b,[],[]⟩]) .ret)) .skip)) (.seq (.reg [⟨⟨(some 24),(.mov (.t 0)),none⟩,.b,[],[]⟩,⟨⟨(some 25),(.mov (.t 4)),none⟩,.b,[],[]⟩,⟨⟨(some 26),(.nilc (.t 24)),none⟩,.b,[],[]⟩,⟨⟨(some 27),(.fad 1 (.t 26)),none⟩,.b,[],[]⟩,⟨⟨none,(.store 1 (.t 27) (.t 25)),none⟩,.b,[],[]⟩]) (.seq (.reg [⟨⟨(some 28),(.mov (.t 3)),none⟩,.b,[],[]⟩,⟨⟨(some 2),(.mov (.t 28)),none⟩,.b,[],[]⟩]) .ret))))),[15],29,[.t 2],2⟩
theorem fh50_ok:fh50.ok Try.prog 50:=⟨_,_,Try.func50,rfl,by kernel_rfl,rfl,by kernel_rfl,rfl,by kernel_rfl,by kernel_rfl⟩
def fh46:FX:=⟨(.seq (.reg [⟨⟨(some 1),(.box 0 1 (.t 0)),none⟩,.b,[],[]⟩,⟨⟨(some 2),(.alloc 1 (.agg [(.v .nilFunc),(.v .nilFunc),(.v .nilFunc)])),none⟩,.b,[],[]⟩]) (.seq (.reg [⟨⟨(some 3),(.fn 48 [] [(.t 1)]),none⟩,.b,[],[]⟩,⟨⟨(some 4),(.fn 49 [] [(.t 1)]),none⟩,.b,[],[]⟩,⟨⟨(some 5),(.bld [(.v .nilFunc),(.v .nilFunc),(.v .nilFunc)] [(0,1,(.c (.clo 47 [] []))),(1,1,(.t 3)),(2,1,(.t 4))]),none⟩,.b,[],[]⟩,⟨⟨none,(.store 3 (.t 2) (.t 5)),none⟩,.b,[],[]⟩]) .ret)),[1,2],6,[.c 2 57 true 3],3⟩
theorem fh46_ok:fh46.ok Try.prog 46:=⟨_,_,Try.func46,rfl,by kernel_rfl,rfl,by kernel_rfl,rfl,by kernel_rfl,by kernel_rfl⟩
def fh51:FX:=⟨(.seq (.reg [⟨⟨(some 2),(.mov (.c (.v (.pointer none)))),none⟩,.b,[],[]⟩]) (.seq (.reg [⟨⟨(some 3),(.mov (.t 0)),none⟩,.b,[],[]⟩,⟨⟨(some 4),(.nilc (.t 3)),none⟩,.b,[],[]⟩,⟨⟨(some 5),(.fad 3 (.t 4)),none⟩,.b,[],[]⟩,⟨⟨(some 2),(.mov (.t 5)),none⟩,.b,[],[]⟩]) .ret)),[],6,[.t 2],1⟩
theorem fh51_ok:fh51.ok Try.prog 51:=⟨_,_,Try.func51,rfl,by kernel_rfl,rfl,by kernel_rfl,rfl,by kernel_rfl,by kernel_rfl⟩
def fh52:FX:=⟨(.seq (.reg [⟨⟨(some 2),(.mov (.c (.v (.pointer none)))),none⟩,.b,[],[]⟩]) (.seq (.reg [⟨⟨(some 3),(.mov (.t 0)),none⟩,.b,[],[]⟩,⟨⟨(some 4),(.nilc (.t 3)),none⟩,.b,[],[]⟩,⟨⟨(some 5),(.fad 9 (.t 4)),none⟩,.b,[],[]⟩,⟨⟨(some 2),(.mov (.t 5)),none⟩,.b,[],[]⟩]) .ret)),[],6,[.t 2],1⟩
theorem fh52_ok:fh52.ok Try.prog 52:=⟨_,_,Try.func52,rfl,by kernel_rfl,rfl,by kernel_rfl,rfl,by kernel_rfl,by kernel_rfl⟩
def fh53:FX:=⟨(.seq (.reg [⟨⟨(some 2),(.mov (.c (.v (.pointer none)))),none⟩,.b,[],[]⟩]) (.seq (.reg [⟨⟨(some 3),(.mov (.t 0)),none⟩,.b,[],[]⟩,⟨⟨(some 4),(.nilc (.t 3)),none⟩,.b,[],[]⟩,⟨⟨(some 5),(.fad 10 (.t 4)),none⟩,.b,[],[]⟩,⟨⟨(some 2),(.mov (.t 5)),none⟩,.b,[],[]⟩]) .ret)),[],6,[.t 2],1⟩
theorem fh53_ok:fh53.ok Try.prog 53:=⟨_,_,Try.func53,rfl,by kernel_rfl,rfl,by kernel_rfl,rfl,by kernel_rfl,by kernel_rfl⟩
def fh54:FX:=⟨(.seq (.reg [⟨⟨(some 2),(.mov (.c (.v (.pointer none)))),none⟩,.b,[],[]⟩]) (.seq (.reg [⟨⟨(some 3),(.mov (.t 0)),none⟩,.b,[],[]⟩,⟨⟨(some 4),(.nilc (.t 3)),none⟩,.b,[],[]⟩,⟨⟨(some 5),(.fad 13 (.t 4)),none⟩,.b,[],[]⟩,⟨⟨(some 2),(.mov (.t 5)),none⟩,.b,[],[]⟩]) .ret)),[],6,[.t 2],1⟩
theorem fh54_ok:fh54.ok Try.prog 54:=⟨_,_,Try.func54,rfl,by kernel_rfl,rfl,by kernel_rfl,rfl,by kernel_rfl,by kernel_rfl⟩
def fh63:FX:=⟨(.seq (.reg [⟨⟨(some 2),(.alloc 0 (.agg [(.v (.int .u64 0)),(.v (.int .i64 0))])),none⟩,.b,[],[]⟩]) (.seq (.reg [⟨⟨(some 4),(.mov (.t 0)),none⟩,.b,[],[]⟩,⟨⟨(some 5),(.call 1 50 [(.t 4)]),none⟩,.b,[],[]⟩,⟨⟨(some 3),(.mov (.t 5)),none⟩,.b,[],[]⟩]) (.seq (.reg [⟨⟨(some 6),(.mov (.t 3)),none⟩,.b,[],[]⟩,⟨⟨(some 7),(.mov (.t 0)),none⟩,.b,[],[]⟩,⟨⟨(some 8),(.call 2 39 [(.t 7)]),none⟩,.b,[],[]⟩,⟨⟨(some 9),(.bld [(.v (.int .u64 0)),(.v (.int .i64 0))] [(0,1,(.t 6)),(1,1,(.t 8))]),none⟩,.b,[],[]⟩,⟨⟨none,(.store 2 (.t 2) (.t 9)),none⟩,.b,[],[]⟩]) .ret))),[2,5,8],10,[.c 2 24 true 2],4⟩
theorem fh63_ok:fh63.ok Try.prog 63:=⟨_,_,Try.func63,rfl,by kernel_rfl,rfl,by kernel_rfl,rfl,by kernel_rfl,by kernel_rfl⟩
def fh71:FX:=⟨(.seq (.reg [⟨⟨(some 4),(.mov (.c (.v (.int .i64 0)))),none⟩,.b,[],[]⟩]) (.seq (.reg [⟨⟨(some 6),(.mov (.t 0)),none⟩,.b,[],[]⟩,⟨⟨(some 7),(.call 0 39 [(.t 6)]),none⟩,.b,[],[]⟩,⟨⟨(some 5),(.mov (.t 7)),none⟩,.b,[],[]⟩]) (.seq (.seq (.reg [⟨⟨(some 8),(.mov (.t 5)),none⟩,.b,[],[]⟩,⟨⟨(some 9),(.mov (.t 1)),none⟩,.b,[],[]⟩,⟨⟨(some 10),(.bin .gtr (.t 8) (.t 9)),none⟩,.b,[],[]⟩]) (.cond (.t 10) (.seq (.reg [⟨⟨(some 11),(.mov (.t 0)),none⟩,.b,[],[]⟩,⟨⟨(some 12),(.nilc (.t 11)),none⟩,.b,[],[]⟩,⟨⟨(some 13),(.fad 2 (.t 12)),none⟩,.b,[],[]⟩,⟨⟨none,(.store 1 (.t 13) (.c (.v (.bool false)))),none⟩,.b,[],[]⟩]) (.seq (.reg [⟨⟨(some 4),(.mov (.c (.v (.int .i64 0)))),none⟩,.b,[],[]⟩]) .ret)) .skip)) (.seq (.reg [⟨⟨(some 14),(.mov (.t 5)),none⟩,.b,[],[]⟩,⟨⟨(some 4),(.mov (.t 14)),none⟩,.b,[],[]⟩]) .ret)))),[7],15,[.t 4],2⟩
theorem fh71_ok:fh71.ok Try.prog 71:=⟨_,_,Try.func71,rfl,by kernel_rfl,rfl,by kernel_rfl,rfl,by kernel_rfl,by kernel_rfl⟩
def tb18:List PE:=[pe11,pe24,pe38,pe85,pe89]
theorem tb18_ok:PEsOk Try.prog tb18:=⟨pe11_ok,pe24_ok,pe38_ok,pe85_ok,pe89_ok,trivial⟩
def ex18:List EX:=[]
theorem ex18_ok:EXsOk Try.prog ex18:=trivial
def in18:List IN:=[⟨3,39,12,fh39,some ⟨[0,1,2,3,4,5,6,7,8,9,10,11,12],[2,12,13,14,15],⟨[],[(2,.v (.i .i64))],[⟨2,.row (.v (.p .s (.p (.i .i64) .b))),true⟩]⟩⟩⟩,⟨4,39,16,fh39,some ⟨[0,1,2,3,4,5,6,7,8,9,10,11,12],[2,16,17,18,19],⟨[],[(2,.v (.i .i64))],[⟨2,.row (.v (.p .s (.p (.i .i64) .b))),true⟩]⟩⟩⟩,⟨5,39,20,fh39,some ⟨[0,1,2,3,4,5,6,7,8,9,10,11,12],[2,20,21,22,23],⟨[],[(2,.v (.i .i64))],[⟨2,.row (.v (.p .s (.p (.i .i64) .b))),true⟩]⟩⟩⟩,⟨7,23,24,fh23,none⟩,⟨9,49,44,fh49,none⟩,⟨9,57,53,fh57,none⟩,⟨9,62,59,fh62,none⟩,⟨9,66,71,fh66,none⟩,⟨9,70,96,fh70,none⟩,⟨9,74,116,fh74,none⟩,⟨9,77,120,fh77,some ⟨[0,1,2,3,4,5,6,7,8,9,10,11,12,13,14,15,16,17,18,19,20,21,22,23,24,25,26,27,28,29,30,31,32],[2,6,120,121],⟨[],[],[⟨2,.row (.v (.p .s (.p (.i .i64) .b))),true⟩,⟨6,.row (.agg (.co (.v (.i .i64)) (.co (.v (.i .i64)) (.co (.v (.i .i64)) (.co (.v (.i .u64)) (.co (.v (.i .i64)) (.co (.v (.i .u64)) (.co (.v (.i .i64)) (.co (.ow 42 3) (.co (.ow 43 2) (.co (.v (.i .u64)) (.co (.v (.i .u64)) (.co (.v (.i .i64)) (.co (.v .s) (.co (.v (.i .u64)) (.co (.v .b) .no)))))))))))))))),true⟩]⟩⟩⟩,⟨9,80,122,fh80,none⟩,⟨12,50,14,fh50,some ⟨[0,1,2,3,4,5,6,7,8,9,10,11,12,13,14,15,16,17,18,19,20,21,22,23,24,25,26,27,28],[2,14,15],⟨[],[(2,.v (.i .u64))],[⟨2,.row (.v (.p .s (.p (.i .i64) .b))),true⟩]⟩⟩⟩,⟨16,50,18,fh50,some ⟨[0,1,2,3,4,5,6,7,8,9,10,11,12,13,14,15,16,17,18,19,20,21,22,23,24,25,26,27,28],[2,18,19],⟨[],[(2,.v (.i .u64))],[⟨2,.row (.v (.p .s (.p (.i .i64) .b))),true⟩]⟩⟩⟩,⟨20,50,22,fh50,some ⟨[0,1,2,3,4,5,6,7,8,9,10,11,12,13,14,15,16,17,18,19,20,21,22,23,24,25,26,27,28],[2,22,23],⟨[],[(2,.v (.i .u64))],[⟨2,.row (.v (.p .s (.p (.i .i64) .b))),true⟩]⟩⟩⟩,⟨25,46,30,fh46,none⟩,⟨26,46,33,fh46,none⟩,⟨27,46,36,fh46,none⟩,⟨28,46,39,fh46,none⟩,⟨44,51,47,fh51,none⟩,⟨44,52,50,fh52,none⟩,⟨44,53,51,fh53,none⟩,⟨44,54,52,fh54,none⟩,⟨45,50,48,fh50,some ⟨[0,1,2,3,4,5,6,7,8,9,10,11,12,13,14,15,16,17,18,19,20,21,22,23,24,25,26,27,28],[2,48,49],⟨[],[(2,.v (.i .u64))],[⟨2,.row (.v (.p .s (.p (.i .i64) .b))),true⟩]⟩⟩⟩,⟨53,39,55,fh39,some ⟨[0,1,2,3,4,5,6,7,8,9,10,11,12],[2,55,56,57,58],⟨[],[(2,.v (.i .i64))],[⟨2,.row (.v (.p .s (.p (.i .i64) .b))),true⟩]⟩⟩⟩,⟨55,50,57,fh50,some ⟨[0,1,2,3,4,5,6,7,8,9,10,11,12,13,14,15,16,17,18,19,20,21,22,23,24,25,26,27,28],[2,57,58],⟨[],[(2,.v (.i .u64))],[⟨2,.row (.v (.p .s (.p (.i .i64) .b))),true⟩]⟩⟩⟩,⟨59,63,61,fh63,none⟩,⟨62,50,65,fh50,some ⟨[0,1,2,3,4,5,6,7,8,9,10,11,12,13,14,15,16,17,18,19,20,21,22,23,24,25,26,27,28],[2,65,66],⟨[],[(2,.v (.i .u64))],[⟨2,.row (.v (.p .s (.p (.i .i64) .b))),true⟩]⟩⟩⟩,⟨63,39,67,fh39,some ⟨[0,1,2,3,4,5,6,7,8,9,10,11,12],[2,67,68,69,70],⟨[],[(2,.v (.i .i64))],[⟨2,.row (.v (.p .s (.p (.i .i64) .b))),true⟩]⟩⟩⟩,⟨67,50,69,fh50,some ⟨[0,1,2,3,4,5,6,7,8,9,10,11,12,13,14,15,16,17,18,19,20,21,22,23,24,25,26,27,28],[2,69,70],⟨[],[(2,.v (.i .u64))],[⟨2,.row (.v (.p .s (.p (.i .i64) .b))),true⟩]⟩⟩⟩,⟨71,71,76,fh71,some ⟨[0,1,2,3,4,5,6,7,8,9,10,11,12,13,14],[2,76,77,78,79,80,81],⟨[],[(4,.v (.i .i64))],[⟨2,.row (.v (.p .s (.p (.i .i64) .b))),true⟩]⟩⟩⟩,⟨72,39,82,fh39,some ⟨[0,1,2,3,4,5,6,7,8,9,10,11,12],[2,82,83,84,85],⟨[],[(2,.v (.i .i64))],[⟨2,.row (.v (.p .s (.p (.i .i64) .b))),true⟩]⟩⟩⟩,⟨73,63,86,fh63,some ⟨[0,1,2,3,4,5,6,7,8,9],[2,86,87,88,89,90,91,92,93,94,95],⟨[],[(2,.ptr 86 0)],[⟨2,.row (.v (.p .s (.p (.i .i64) .b))),true⟩,⟨86,.row (.v (.p (.i .u64) (.i .i64))),false⟩]⟩⟩⟩,⟨76,39,78,fh39,some ⟨[0,1,2,3,4,5,6,7,8,9,10,11,12],[2,78,79,80,81],⟨[],[(2,.v (.i .i64))],[⟨2,.row (.v (.p .s (.p (.i .i64) .b))),true⟩]⟩⟩⟩,⟨78,50,80,fh50,some ⟨[0,1,2,3,4,5,6,7,8,9,10,11,12,13,14,15,16,17,18,19,20,21,22,23,24,25,26,27,28],[2,80,81],⟨[],[(2,.v (.i .u64))],[⟨2,.row (.v (.p .s (.p (.i .i64) .b))),true⟩]⟩⟩⟩,⟨82,50,84,fh50,some ⟨[0,1,2,3,4,5,6,7,8,9,10,11,12,13,14,15,16,17,18,19,20,21,22,23,24,25,26,27,28],[2,84,85],⟨[],[(2,.v (.i .u64))],[⟨2,.row (.v (.p .s (.p (.i .i64) .b))),true⟩]⟩⟩⟩,⟨87,50,90,fh50,some ⟨[0,1,2,3,4,5,6,7,8,9,10,11,12,13,14,15,16,17,18,19,20,21,22,23,24,25,26,27,28],[2,90,91],⟨[],[(2,.v (.i .u64))],[⟨2,.row (.v (.p .s (.p (.i .i64) .b))),true⟩]⟩⟩⟩,⟨88,39,92,fh39,some ⟨[0,1,2,3,4,5,6,7,8,9,10,11,12],[2,92,93,94,95],⟨[],[(2,.v (.i .i64))],[⟨2,.row (.v (.p .s (.p (.i .i64) .b))),true⟩]⟩⟩⟩,⟨92,50,94,fh50,some ⟨[0,1,2,3,4,5,6,7,8,9,10,11,12,13,14,15,16,17,18,19,20,21,22,23,24,25,26,27,28],[2,94,95],⟨[],[(2,.v (.i .u64))],[⟨2,.row (.v (.p .s (.p (.i .i64) .b))),true⟩]⟩⟩⟩,⟨96,71,100,fh71,some ⟨[0,1,2,3,4,5,6,7,8,9,10,11,12,13,14],[2,100,101,102,103,104,105],⟨[],[(4,.v (.i .i64))],[⟨2,.row (.v (.p .s (.p (.i .i64) .b))),true⟩]⟩⟩⟩,⟨97,63,106,fh63,some ⟨[0,1,2,3,4,5,6,7,8,9],[2,106,107,108,109,110,111,112,113,114,115],⟨[],[(2,.ptr 106 0)],[⟨2,.row (.v (.p .s (.p (.i .i64) .b))),true⟩,⟨106,.row (.v (.p (.i .u64) (.i .i64))),false⟩]⟩⟩⟩,⟨100,39,102,fh39,some ⟨[0,1,2,3,4,5,6,7,8,9,10,11,12],[2,102,103,104,105],⟨[],[(2,.v (.i .i64))],[⟨2,.row (.v (.p .s (.p (.i .i64) .b))),true⟩]⟩⟩⟩,⟨102,50,104,fh50,some ⟨[0,1,2,3,4,5,6,7,8,9,10,11,12,13,14,15,16,17,18,19,20,21,22,23,24,25,26,27,28],[2,104,105],⟨[],[(2,.v (.i .u64))],[⟨2,.row (.v (.p .s (.p (.i .i64) .b))),true⟩]⟩⟩⟩,⟨107,50,110,fh50,some ⟨[0,1,2,3,4,5,6,7,8,9,10,11,12,13,14,15,16,17,18,19,20,21,22,23,24,25,26,27,28],[2,110,111],⟨[],[(2,.v (.i .u64))],[⟨2,.row (.v (.p .s (.p (.i .i64) .b))),true⟩]⟩⟩⟩,⟨108,39,112,fh39,some ⟨[0,1,2,3,4,5,6,7,8,9,10,11,12],[2,112,113,114,115],⟨[],[(2,.v (.i .i64))],[⟨2,.row (.v (.p .s (.p (.i .i64) .b))),true⟩]⟩⟩⟩,⟨112,50,114,fh50,some ⟨[0,1,2,3,4,5,6,7,8,9,10,11,12,13,14,15,16,17,18,19,20,21,22,23,24,25,26,27,28],[2,114,115],⟨[],[(2,.v (.i .u64))],[⟨2,.row (.v (.p .s (.p (.i .i64) .b))),true⟩]⟩⟩⟩,⟨116,50,118,fh50,some ⟨[0,1,2,3,4,5,6,7,8,9,10,11,12,13,14,15,16,17,18,19,20,21,22,23,24,25,26,27,28],[2,118,119],⟨[],[(2,.v (.i .u64))],[⟨2,.row (.v (.p .s (.p (.i .i64) .b))),true⟩]⟩⟩⟩,⟨122,71,124,fh71,some ⟨[0,1,2,3,4,5,6,7,8,9,10,11,12,13,14],[2,124,125,126,127,128,129],⟨[],[(4,.v (.i .i64))],[⟨2,.row (.v (.p .s (.p (.i .i64) .b))),true⟩]⟩⟩⟩,⟨124,39,126,fh39,some ⟨[0,1,2,3,4,5,6,7,8,9,10,11,12],[2,126,127,128,129],⟨[],[(2,.v (.i .i64))],[⟨2,.row (.v (.p .s (.p (.i .i64) .b))),true⟩]⟩⟩⟩,⟨126,50,128,fh50,some ⟨[0,1,2,3,4,5,6,7,8,9,10,11,12,13,14,15,16,17,18,19,20,21,22,23,24,25,26,27,28],[2,128,129],⟨[],[(2,.v (.i .u64))],[⟨2,.row (.v (.p .s (.p (.i .i64) .b))),true⟩]⟩⟩⟩]
theorem in18_ok:INsOk Try.prog in18:=⟨fh39_ok,fh39_ok,fh39_ok,fh23_ok,fh49_ok,fh57_ok,fh62_ok,fh66_ok,fh70_ok,fh74_ok,fh77_ok,fh80_ok,fh50_ok,fh50_ok,fh50_ok,fh46_ok,fh46_ok,fh46_ok,fh46_ok,fh51_ok,fh52_ok,fh53_ok,fh54_ok,fh50_ok,fh39_ok,fh50_ok,fh63_ok,fh50_ok,fh39_ok,fh50_ok,fh71_ok,fh39_ok,fh63_ok,fh39_ok,fh50_ok,fh50_ok,fh50_ok,fh39_ok,fh50_ok,fh71_ok,fh63_ok,fh39_ok,fh50_ok,fh50_ok,fh39_ok,fh50_ok,fh50_ok,fh71_ok,fh39_ok,fh50_ok,trivial⟩
def F18:DT ((.co (.v .s) .no):Fm).den→Option (DT (.tup (.co (.v (.p (.i .i64) (.p (.i .i64) (.p (.i .i64) (.p (.i .u64) (.p (.i .i64) (.p (.i .u64) (.p (.i .i64) (.p (.sl (.p (.i .i64) (.p (.i .u64) (.i .i64)))) (.p (.sl (.p (.i .u64) (.i .i64))) (.p (.i .u64) (.p (.i .u64) (.p (.i .i64) (.p .s (.p (.i .u64) .b))))))))))))))) (.co (.v (.i .i64)) .no)):Fm).den):=pureT tb18 ex18 in18 9 xf18 _ _ [42,43]
def pe18:PE:=⟨18,(.co (.v .s) .no),.tup (.co (.v (.p (.i .i64) (.p (.i .i64) (.p (.i .i64) (.p (.i .u64) (.p (.i .i64) (.p (.i .u64) (.p (.i .i64) (.p (.sl (.p (.i .i64) (.p (.i .u64) (.i .i64)))) (.p (.sl (.p (.i .u64) (.i .i64))) (.p (.i .u64) (.p (.i .u64) (.p (.i .i64) (.p .s (.p (.i .u64) .b))))))))))))))) (.co (.v (.i .i64)) .no)),F18⟩
theorem pe18_ok:pe18.ok Try.prog:=pe_of hm tb18_ok ex18_ok in18_ok xf18_ok (by kernel_rfl) (fun _=>rfl)
def xf8:FX:=⟨(.seq (.reg [⟨⟨(some 6),(.mov (.c (.v (.bool false)))),none⟩,.b,[],[]⟩]) (.seq (.reg [⟨⟨(some 14),(.mov (.t 1)),none⟩,.b,[],[]⟩,⟨⟨(some 15),(.bin .rem (.t 14) (.c (.v (.int .u8 64)))),none⟩,.b,[],[]⟩,⟨⟨(some 16),(.conv .i64 (.t 15)),none⟩,.b,[],[]⟩,⟨⟨(some 17),(.mov (.t 2)),none⟩,.b,[],[]⟩,⟨⟨(some 18),(.bin .rem (.t 17) (.c (.v (.int .u8 64)))),none⟩,.b,[],[]⟩,⟨⟨(some 19),(.conv .i64 (.t 18)),none⟩,.b,[],[]⟩,⟨⟨(some 7),(.mov (.t 16)),none⟩,.b,[],[]⟩,⟨⟨(some 8),(.mov (.t 19)),none⟩,.b,[],[]⟩]) (.seq (.reg [⟨⟨(some 20),(.mov (.t 0)),none⟩,.b,[],[]⟩,⟨⟨(some 21),(.bin .rem (.t 20) (.c (.v (.int .u8 12)))),none⟩,.b,[],[]⟩,⟨⟨(some 22),(.conv .i64 (.t 21)),none⟩,.b,[],[]⟩,⟨⟨(some 23),(.bin .add (.c (.v (.int .i64 1))) (.t 22)),none⟩,.b,[],[]⟩,⟨⟨(some 24),(.mov (.t 7)),none⟩,.b,[],[]⟩,⟨⟨(some 25),(.mov (.t 8)),none⟩,.b,[],[]⟩,⟨⟨(some 26),(.bld [(.v (.int .i64 0)),(.v (.int .i64 0)),(.v (.int .i64 0)),(.v (.int .u64 0)),(.v (.int .i64 0)),(.v (.int .u64 0)),(.v (.int .i64 0)),(.sl true []),(.sl true []),(.v (.int .u64 0)),(.v (.int .u64 0)),(.v (.int .i64 0)),(.v (.string ⟨#[]⟩)),(.v (.int .u64 0)),(.v (.bool false))] [(0,1,(.t 23)),(1,1,(.t 24)),(2,1,(.t 25))]),none⟩,.b,[],[]⟩,⟨⟨(some 9),(.alloc 0 (.agg [(.v (.int .i64 0)),(.v (.int .i64 0)),(.v (.int .i64 0)),(.v (.int .u64 0)),(.v (.int .i64 0)),(.v (.int .u64 0)),(.v (.int .i64 0)),(.sl true []),(.sl true []),(.v (.int .u64 0)),(.v (.int .u64 0)),(.v (.int .i64 0)),(.v (.string ⟨#[]⟩)),(.v (.int .u64 0)),(.v (.bool false))])),none⟩,.b,[],[]⟩,⟨⟨none,(.store 15 (.t 9) (.t 26)),none⟩,.b,[],[]⟩]) (.seq (.cutN ⟨[27,28,29,30,31,32,33,34,35,36,37],[0],⟨[],[],[⟨0,.row (.agg (.co (.v (.i .i64)) (.co (.v (.i .i64)) (.co (.v (.i .i64)) (.co (.v (.i .u64)) (.co (.v (.i .i64)) (.co (.v (.i .u64)) (.co (.v (.i .i64)) (.co (.nil) (.co (.v (.sl (.p (.i .u64) (.i .i64)))) (.co (.v (.i .u64)) (.co (.v (.i .u64)) (.co (.v (.i .i64)) (.co (.v .s) (.co (.v (.i .u64)) (.co (.v .b) .no)))))))))))))))),true⟩]⟩⟩ (.seq (.cutN ⟨[27,28,29,30,31,32,33,34],[],⟨[],[(34,.v .b)],[]⟩⟩ (.reg [⟨⟨(some 27),(.fad 0 (.t 9)),none⟩,.b,[],[]⟩,⟨⟨(some 28),(.load false 1 (.t 27)),none⟩,.b,[],[]⟩,⟨⟨(some 29),(.bin .eql (.t 28) (.c (.v (.int .i64 5)))),none⟩,.b,[],[]⟩,⟨⟨(some 30),(.mov (.t 29)),none⟩,.b,[],[]⟩,⟨⟨(some 31),(.fad 0 (.t 9)),(some (30,false))⟩,.b,[],[]⟩,⟨⟨(some 32),(.load false 1 (.t 31)),(some (30,false))⟩,.b,[],[]⟩,⟨⟨(some 33),(.bin .eql (.t 32) (.c (.v (.int .i64 6)))),(some (30,false))⟩,.b,[],[]⟩,⟨⟨(some 34),(.pick (.t 30) (.c (.v (.bool true))) (.t 33)),none⟩,.b,[],[]⟩])) (.cond (.t 34) (.reg [⟨⟨(some 35),(.bld [(.v (.int .u64 0)),(.v (.int .i64 0))] []),none⟩,.b,[],[]⟩,⟨⟨(some 36),(.bsl 2 (.agg [(.v (.int .u64 0)),(.v (.int .i64 0))]) 1 [(0,(.t 35))]),none⟩,.b,[],[]⟩,⟨⟨(some 37),(.fad 8 (.t 9)),none⟩,.b,[],[]⟩,⟨⟨none,(.store 1 (.t 37) (.t 36)),none⟩,.b,[],[]⟩]) .skip))) (.seq (.cutN ⟨[38,39,40,41],[0],⟨[],[],[⟨0,.row (.agg (.co (.v (.i .i64)) (.co (.v (.i .i64)) (.co (.v (.i .i64)) (.co (.v (.i .u64)) (.co (.v (.i .i64)) (.co (.v (.i .u64)) (.co (.v (.i .i64)) (.co (.nil) (.co (.v (.sl (.p (.i .u64) (.i .i64)))) (.co (.v (.i .u64)) (.co (.v (.i .u64)) (.co (.v (.i .i64)) (.co (.v .s) (.co (.v (.i .u64)) (.co (.v .b) .no)))))))))))))))),true⟩]⟩⟩ (.seq (.reg [⟨⟨(some 38),(.fad 0 (.t 9)),none⟩,.b,[],[]⟩,⟨⟨(some 39),(.load false 1 (.t 38)),none⟩,.b,[],[]⟩,⟨⟨(some 40),(.bin .geq (.t 39) (.c (.v (.int .i64 11)))),none⟩,.b,[],[]⟩]) (.cond (.t 40) (.reg [⟨⟨(some 41),(.fad 12 (.t 9)),none⟩,.b,[],[]⟩,⟨⟨none,(.store 1 (.t 41) (.c (.v (.string ⟨#[97]⟩)))),none⟩,.b,[],[]⟩]) .skip))) (.seq (.reg [⟨⟨(some 43),(.load true 15 (.t 9)),none⟩,.b,[],[]⟩,⟨⟨(some 44),(.call 1 10 [(.t 43)]),none⟩,.b,[],[]⟩,⟨⟨(some 42),(.mov (.t 44)),none⟩,.b,[],[]⟩,⟨⟨(some 45),(.ext (.t 42) 0),none⟩,.b,[],[]⟩,⟨⟨(some 46),(.ext (.t 42) 1),none⟩,.b,[],[]⟩,⟨⟨(some 10),(.mov (.t 45)),none⟩,.b,[],[]⟩,⟨⟨(some 11),(.mov (.t 46)),none⟩,.b,[],[]⟩]) (.seq (.seq (.reg [⟨⟨(some 47),(.mov (.t 7)),none⟩,.b,[],[]⟩,⟨⟨(some 48),(.mov (.t 8)),none⟩,.b,[],[]⟩,⟨⟨(some 49),(.bin .eql (.t 47) (.t 48)),none⟩,.b,[],[]⟩]) (.cond (.t 49) (.seq (.reg [⟨⟨(some 50),(.mov (.t 11)),none⟩,.b,[],[]⟩,⟨⟨(some 51),(.bin .eql (.t 50) (.c (.v (.int .i64 1)))),none⟩,.b,[],[]⟩,⟨⟨(some 52),(.mov (.t 51)),none⟩,.b,[],[]⟩,⟨⟨(some 53),(.mov (.t 10)),(some (52,true))⟩,.b,[],[]⟩,⟨⟨(some 54),(.bin .eql (.t 53) (.c (.v (.string ⟨#[]⟩)))),(some (52,true))⟩,.b,[],[]⟩,⟨⟨(some 55),(.pick (.t 52) (.t 54) (.c (.v (.bool false)))),none⟩,.b,[],[]⟩,⟨⟨(some 56),(.mov (.t 55)),none⟩,.b,[],[]⟩,⟨⟨(some 57),(.call 2 17 []),(some (56,true))⟩,.b,[],[]⟩,⟨⟨(some 58),(.pick (.t 56) (.t 57) (.c (.v (.bool false)))),none⟩,.b,[],[]⟩,⟨⟨(some 6),(.mov (.t 58)),none⟩,.b,[],[]⟩]) .ret) .skip)) (.seq (.reg [⟨⟨(some 60),(.mov (.t 10)),none⟩,.b,[],[]⟩,⟨⟨(some 61),(.call 3 18 [(.t 60)]),none⟩,.b,[],[]⟩,⟨⟨(some 59),(.mov (.t 61)),none⟩,.b,[],[]⟩,⟨⟨(some 62),(.ext (.t 59) 0),none⟩,.b,[],[]⟩,⟨⟨(some 63),(.ext (.t 59) 1),none⟩,.b,[],[]⟩,⟨⟨(some 12),(.alloc 4 (.agg [(.v (.int .i64 0)),(.v (.int .i64 0)),(.v (.int .i64 0)),(.v (.int .u64 0)),(.v (.int .i64 0)),(.v (.int .u64 0)),(.v (.int .i64 0)),(.sl true []),(.sl true []),(.v (.int .u64 0)),(.v (.int .u64 0)),(.v (.int .i64 0)),(.v (.string ⟨#[]⟩)),(.v (.int .u64 0)),(.v (.bool false))])),none⟩,.b,[],[]⟩,⟨⟨none,(.store 15 (.t 12) (.t 62)),none⟩,.b,[],[]⟩,⟨⟨(some 13),(.mov (.t 63)),none⟩,.b,[],[]⟩]) (.seq (.dr [] [⟨⟨(some 64),(.mov (.t 11)),none⟩,.b,[],[]⟩,⟨⟨(some 65),(.bin .eql (.t 64) (.c (.v (.int .i64 0)))),none⟩,.b,[],[]⟩,⟨⟨(some 66),(.mov (.t 65)),none⟩,.b,[],[]⟩,⟨⟨(some 67),(.mov (.t 13)),(some (66,true))⟩,.b,[],[]⟩,⟨⟨(some 68),(.bin .eql (.t 67) (.c (.v (.int .i64 0)))),(some (66,true))⟩,.b,[],[]⟩,⟨⟨(some 69),(.pick (.t 66) (.t 68) (.c (.v (.bool false)))),none⟩,.b,[],[]⟩,⟨⟨(some 70),(.mov (.t 69)),none⟩,.b,[],[]⟩,⟨⟨(some 71),(.load true 15 (.t 12)),(some (70,true))⟩,.b,[],[]⟩,⟨⟨(some 72),(.load true 15 (.t 9)),(some (70,true))⟩,.b,[],[]⟩,⟨⟨(some 73),(.callG 5 14 [(.t 71),(.t 72)]),(some (70,true))⟩,.b,[],[]⟩,⟨⟨(some 74),(.pick (.t 70) (.t 73) (.c (.v (.bool false)))),none⟩,.b,[],[]⟩,⟨⟨(some 75),(.mov (.t 74)),none⟩,.b,[],[]⟩,⟨⟨(some 76),(.mov (.t 10)),(some (75,true))⟩,.b,[],[]⟩,⟨⟨(some 77),(.lenS (.t 76)),(some (75,true))⟩,.b,[],[]⟩,⟨⟨(some 78),(.bin .gtr (.t 77) (.c (.v (.int .i64 4)))),(some (75,true))⟩,.b,[],[]⟩,⟨⟨(some 79),(.pick (.t 75) (.t 78) (.c (.v (.bool false)))),none⟩,.b,[],[]⟩,⟨⟨(some 80),(.mov (.t 79)),none⟩,.b,[],[]⟩,⟨⟨(some 81),(.mov (.t 10)),(some (80,true))⟩,.b,[],[]⟩,⟨⟨(some 82),(.ixS (.t 81) (.c (.v (.int .i64 0)))),(some (80,true))⟩,.b,[],[]⟩,⟨⟨(some 83),(.conv .i64 (.t 82)),(some (80,true))⟩,.b,[],[]⟩,⟨⟨(some 84),(.fad 0 (.t 9)),(some (80,true))⟩,.b,[],[]⟩,⟨⟨(some 85),(.load false 1 (.t 84)),(some (80,true))⟩,.b,[],[]⟩,⟨⟨(some 86),(.bin .eql (.t 83) (.t 85)),(some (80,true))⟩,.b,[],[]⟩,⟨⟨(some 87),(.pick (.t 80) (.t 86) (.c (.v (.bool false)))),none⟩,.b,[],[]⟩,⟨⟨(some 88),(.mov (.t 87)),none⟩,.b,[],[]⟩,⟨⟨(some 89),(.callG 6 17 []),(some (88,true))⟩,.b,[],[]⟩,⟨⟨(some 90),(.pick (.t 88) (.t 89) (.c (.v (.bool false)))),none⟩,.b,[],[]⟩,⟨⟨(some 6),(.mov (.t 90)),none⟩,.b,[],[]⟩]) .ret))))))))),[9,44,57,61,12,73,89],91,[.t 6],8⟩
theorem xf8_ok:xf8.ok Try.prog 8:=⟨_,_,Try.func8,rfl,by kernel_rfl,rfl,by kernel_rfl,rfl,by kernel_rfl,by kernel_rfl⟩
def tb8:List PE:=[pe10,pe14,pe17,pe18]
theorem tb8_ok:PEsOk Try.prog tb8:=⟨pe10_ok,pe14_ok,pe17_ok,pe18_ok,trivial⟩
def ex8:List EX:=[]
theorem ex8_ok:EXsOk Try.prog ex8:=trivial
def in8:List IN:=[]
theorem in8_ok:INsOk Try.prog in8:=trivial
def F8:DT ((.co (.v (.i .u8)) (.co (.v (.i .u8)) (.co (.v (.i .u8)) .no))):Fm).den→Option (DT (.v .b:Fm).den):=pureT tb8 ex8 in8 0 xf8 _ _ []
def pe8:PE:=⟨8,(.co (.v (.i .u8)) (.co (.v (.i .u8)) (.co (.v (.i .u8)) .no))),.v .b,F8⟩
theorem pe8_ok:pe8.ok Try.prog:=pe_of hm tb8_ok ex8_ok in8_ok xf8_ok (by kernel_rfl) (fun _=>rfl)
end
end Go.Proofs.Ytgbcankkfmhcoaa.VL
end
section
namespace Go.Proofs.Ytgbcankkfmhcoaa.VL
open Go
set_option maxRecDepth 100000
set_option linter.unusedVariables false
set_option linter.unusedSectionVars false
variable [Val]
theorem F8_eq (v:(Int×(Int×Int))):F8 v=(Option.bind (Option.bind (cond ((IntKind.wrap IntKind.i64 ((1:Int)+(IntKind.wrap IntKind.i64 (Int.tmod v.1 (12:Int)))))==(5:Int)) (some true) (some ((IntKind.wrap IntKind.i64 ((1:Int)+(IntKind.wrap IntKind.i64 (Int.tmod v.1 (12:Int)))))==(6:Int)))) (fun (v0:Bool)=>(cond v0 (some ((IntKind.wrap IntKind.i64 ((1:Int)+(IntKind.wrap IntKind.i64 (Int.tmod v.1 (12:Int))))),(IntKind.wrap IntKind.i64 (Int.tmod v.2.1 (64:Int))),(IntKind.wrap IntKind.i64 (Int.tmod v.2.2 (64:Int))),(0:Int),(0:Int),(0:Int),(0:Int),(((0:Int),(0:Int))::[]),(0:Int),(0:Int),(0:Int),(ByteArray.mk #[]),(0:Int),false)) (some ((IntKind.wrap IntKind.i64 ((1:Int)+(IntKind.wrap IntKind.i64 (Int.tmod v.1 (12:Int))))),(IntKind.wrap IntKind.i64 (Int.tmod v.2.1 (64:Int))),(IntKind.wrap IntKind.i64 (Int.tmod v.2.2 (64:Int))),(0:Int),(0:Int),(0:Int),(0:Int),[],(0:Int),(0:Int),(0:Int),(ByteArray.mk #[]),(0:Int),false))))) (fun (v1:(Int×(Int×(Int×(Int×(Int×(Int×(Int×((List (Int×Int))×(Int×(Int×(Int×(ByteArray×(Int×Bool))))))))))))))=>(Option.bind (cond (decide (v1.1 ≥ (11:Int))) (some (v1.1,v1.2.1,v1.2.2.1,v1.2.2.2.1,v1.2.2.2.2.1,v1.2.2.2.2.2.1,v1.2.2.2.2.2.2.1,v1.2.2.2.2.2.2.2.1,v1.2.2.2.2.2.2.2.2.1,v1.2.2.2.2.2.2.2.2.2.1,v1.2.2.2.2.2.2.2.2.2.2.1,(ByteArray.mk #[97]),v1.2.2.2.2.2.2.2.2.2.2.2.2.1,v1.2.2.2.2.2.2.2.2.2.2.2.2.2)) (some (v1.1,v1.2.1,v1.2.2.1,v1.2.2.2.1,v1.2.2.2.2.1,v1.2.2.2.2.2.1,v1.2.2.2.2.2.2.1,v1.2.2.2.2.2.2.2.1,v1.2.2.2.2.2.2.2.2.1,v1.2.2.2.2.2.2.2.2.2.1,v1.2.2.2.2.2.2.2.2.2.2.1,v1.2.2.2.2.2.2.2.2.2.2.2.1,v1.2.2.2.2.2.2.2.2.2.2.2.2.1,v1.2.2.2.2.2.2.2.2.2.2.2.2.2))) (fun (v2:(Int×(Int×(Int×(Int×(Int×(Int×(Int×((List (Int×Int))×(Int×(Int×(Int×(ByteArray×(Int×Bool))))))))))))))=>(Option.bind (F10 (v2.1,v2.2.1,v2.2.2.1,v2.2.2.2.1,v2.2.2.2.2.1,v2.2.2.2.2.2.1,v2.2.2.2.2.2.2.1,[],v2.2.2.2.2.2.2.2.1,v2.2.2.2.2.2.2.2.2.1,v2.2.2.2.2.2.2.2.2.2.1,v2.2.2.2.2.2.2.2.2.2.2.1,v2.2.2.2.2.2.2.2.2.2.2.2.1,v2.2.2.2.2.2.2.2.2.2.2.2.2.1,v2.2.2.2.2.2.2.2.2.2.2.2.2.2)) (fun (v3:(ByteArray×Int))=>(cond ((IntKind.wrap IntKind.i64 (Int.tmod v.2.1 (64:Int)))==(IntKind.wrap IntKind.i64 (Int.tmod v.2.2 (64:Int)))) (cond (v3.2==(1:Int)) (cond ((ByteArray.toList v3.1)==(ByteArray.toList (ByteArray.mk #[]))) (Option.bind (F17 ()) (fun (v4:Bool)=>(some v4))) (some false)) (some false)) (Option.bind (F18 v3.1) (fun (v5:((Int×(Int×(Int×(Int×(Int×(Int×(Int×((List (Int×(Int×Int)))×((List (Int×Int))×(Int×(Int×(Int×(ByteArray×(Int×Bool))))))))))))))×Int))=>(cond (v3.2==(0:Int)) (cond (v5.2==(0:Int)) (Option.bind (F14 ((v5.1.1,v5.1.2.1,v5.1.2.2.1,v5.1.2.2.2.1,v5.1.2.2.2.2.1,v5.1.2.2.2.2.2.1,v5.1.2.2.2.2.2.2.1,v5.1.2.2.2.2.2.2.2.1,v5.1.2.2.2.2.2.2.2.2.1,v5.1.2.2.2.2.2.2.2.2.2.1,v5.1.2.2.2.2.2.2.2.2.2.2.1,v5.1.2.2.2.2.2.2.2.2.2.2.2.1,v5.1.2.2.2.2.2.2.2.2.2.2.2.2.1,v5.1.2.2.2.2.2.2.2.2.2.2.2.2.2.1,v5.1.2.2.2.2.2.2.2.2.2.2.2.2.2.2),v2.1,v2.2.1,v2.2.2.1,v2.2.2.2.1,v2.2.2.2.2.1,v2.2.2.2.2.2.1,v2.2.2.2.2.2.2.1,[],v2.2.2.2.2.2.2.2.1,v2.2.2.2.2.2.2.2.2.1,v2.2.2.2.2.2.2.2.2.2.1,v2.2.2.2.2.2.2.2.2.2.2.1,v2.2.2.2.2.2.2.2.2.2.2.2.1,v2.2.2.2.2.2.2.2.2.2.2.2.2.1,v2.2.2.2.2.2.2.2.2.2.2.2.2.2)) (fun (v6:Bool)=>(cond v6 (cond (decide ((((ByteArray.size v3.1):Nat):Int) > (4:Int))) (Option.bind v3.1[0]? (fun (v7:UInt8)=>(cond ((IntKind.wrap IntKind.i64 (((UInt8.toNat v7):Nat):Int))==v2.1) (Option.bind (F17 ()) (fun (v8:Bool)=>(some v8))) (some false)))) (some false)) (some false)))) (some false)) (some false))))))))))):=by kernel_rfl
theorem F18_eq (v:ByteArray):F18 v=(Option.bind (F38 v) (fun (v0:(ByteArray×Int))=>(cond (v0.2 != (0:Int)) (some (((0:Int),(0:Int),(0:Int),(0:Int),(0:Int),(0:Int),(0:Int),[],[],(0:Int),(0:Int),(0:Int),(ByteArray.mk #[]),(0:Int),false),v0.2)) (Option.bind (Option.bind (Option.bind (F85 (v0.1,(0:Int))) (fun (v1:(Int×(Int×Int)))=>(cond (v1.2.2 != (0:Int)) (some ((0:Int),v0.1,(0:Int),false)) (some (v1.1,v0.1,v1.2.1,true))))) (fun (v2:(Int×(ByteArray×(Int×Bool))))=>(cond (decide (v2.1 > (1048576:Int))) (some ((0:Int),v2.2.1,v2.2.2.1,false)) (some ((IntKind.wrap IntKind.i64 v2.1),v2.2.1,v2.2.2.1,v2.2.2.2))))) (fun (v3:(Int×(ByteArray×(Int×Bool))))=>(Option.bind (Option.bind (Option.bind (F85 (v3.2.1,v3.2.2.1)) (fun (v4:(Int×(Int×Int)))=>(cond (v4.2.2 != (0:Int)) (some ((0:Int),v3.2.1,v3.2.2.1,false)) (some (v4.1,v3.2.1,v4.2.1,v3.2.2.2))))) (fun (v5:(Int×(ByteArray×(Int×Bool))))=>(cond (decide (v5.1 > (1048576:Int))) (some ((0:Int),v5.2.1,v5.2.2.1,false)) (some ((IntKind.wrap IntKind.i64 v5.1),v5.2.1,v5.2.2.1,v5.2.2.2))))) (fun (v6:(Int×(ByteArray×(Int×Bool))))=>(Option.bind (Option.bind (Option.bind (F85 (v6.2.1,v6.2.2.1)) (fun (v7:(Int×(Int×Int)))=>(cond (v7.2.2 != (0:Int)) (some ((0:Int),v6.2.1,v6.2.2.1,false)) (some (v7.1,v6.2.1,v7.2.1,v6.2.2.2))))) (fun (v8:(Int×(ByteArray×(Int×Bool))))=>(cond (decide (v8.1 > (1048576:Int))) (some ((0:Int),v8.2.1,v8.2.2.1,false)) (some ((IntKind.wrap IntKind.i64 v8.1),v8.2.1,v8.2.2.1,v8.2.2.2))))) (fun (v9:(Int×(ByteArray×(Int×Bool))))=>(Option.bind (Option.bind (F24 v3.1) (fun (v10:(List ByteArray))=>(loopX (fun (v11:(Int×((ByteArray×(Int×Bool))×((Int×(Int×(Int×(Int×(Int×(Int×(Int×(Int×(Int×(Int×(ByteArray×(Int×Bool))))))))))))×((List (Int×(Int×Int)))×(List (Int×Int)))))))=>(cond (decide (v11.1 < ((v10.length:Nat):Int))) (cond (decide ((0:Int)≤v11.1)) (Option.bind v10[(Int.toNat v11.1)]? (fun (v12:ByteArray)=>(cond ((ByteArray.toList v12)==(ByteArray.toList (ByteArray.mk #[115,101,113]))) (Option.bind (Option.bind (F85 (v11.2.1.1,v11.2.1.2.1)) (fun (v13:(Int×(Int×Int)))=>(cond (v13.2.2 != (0:Int)) (some ((0:Int),v11.2.1.1,v11.2.1.2.1,false)) (some (v13.1,v11.2.1.1,v13.2.1,v11.2.1.2.2))))) (fun (v14:(Int×(ByteArray×(Int×Bool))))=>(cond (decide (v11.2.2.2.1.length=v11.2.2.2.1.length)) (cond (decide (v11.2.2.2.2.length=v11.2.2.2.2.length)) (some (.inl ((IntKind.wrap IntKind.i64 (v11.1+(1:Int))),(v14.2.1,v14.2.2.1,v14.2.2.2),(v11.2.2.1.1,v11.2.2.1.2.1,v11.2.2.1.2.2.1,v14.1,v11.2.2.1.2.2.2.2.1,v11.2.2.1.2.2.2.2.2.1,v11.2.2.1.2.2.2.2.2.2.1,v11.2.2.1.2.2.2.2.2.2.2.1,v11.2.2.1.2.2.2.2.2.2.2.2.1,v11.2.2.1.2.2.2.2.2.2.2.2.2.1,v11.2.2.1.2.2.2.2.2.2.2.2.2.2.1,v11.2.2.1.2.2.2.2.2.2.2.2.2.2.2.1,v11.2.2.1.2.2.2.2.2.2.2.2.2.2.2.2),v11.2.2.2.1,v11.2.2.2.2))) none) none))) (cond ((ByteArray.toList v12)==(ByteArray.toList (ByteArray.mk #[101,112,111,99,104]))) (Option.bind (Option.bind (F85 (v11.2.1.1,v11.2.1.2.1)) (fun (v15:(Int×(Int×Int)))=>(cond (v15.2.2 != (0:Int)) (some ((0:Int),v11.2.1.1,v11.2.1.2.1,false)) (some (v15.1,v11.2.1.1,v15.2.1,v11.2.1.2.2))))) (fun (v16:(Int×(ByteArray×(Int×Bool))))=>(cond (decide (v11.2.2.2.1.length=v11.2.2.2.1.length)) (cond (decide (v11.2.2.2.2.length=v11.2.2.2.2.length)) (some (.inl ((IntKind.wrap IntKind.i64 (v11.1+(1:Int))),(v16.2.1,v16.2.2.1,v16.2.2.2),(v11.2.2.1.1,v11.2.2.1.2.1,v11.2.2.1.2.2.1,v11.2.2.1.2.2.2.1,v11.2.2.1.2.2.2.2.1,v11.2.2.1.2.2.2.2.2.1,v11.2.2.1.2.2.2.2.2.2.1,v16.1,v11.2.2.1.2.2.2.2.2.2.2.2.1,v11.2.2.1.2.2.2.2.2.2.2.2.2.1,v11.2.2.1.2.2.2.2.2.2.2.2.2.2.1,v11.2.2.1.2.2.2.2.2.2.2.2.2.2.2.1,v11.2.2.1.2.2.2.2.2.2.2.2.2.2.2.2),v11.2.2.2.1,v11.2.2.2.2))) none) none))) (cond ((ByteArray.toList v12)==(ByteArray.toList (ByteArray.mk #[98,111,111,116]))) (Option.bind (Option.bind (F85 (v11.2.1.1,v11.2.1.2.1)) (fun (v17:(Int×(Int×Int)))=>(cond (v17.2.2 != (0:Int)) (some ((0:Int),v11.2.1.1,v11.2.1.2.1,false)) (some (v17.1,v11.2.1.1,v17.2.1,v11.2.1.2.2))))) (fun (v18:(Int×(ByteArray×(Int×Bool))))=>(cond (decide (v11.2.2.2.1.length=v11.2.2.2.1.length)) (cond (decide (v11.2.2.2.2.length=v11.2.2.2.2.length)) (some (.inl ((IntKind.wrap IntKind.i64 (v11.1+(1:Int))),(v18.2.1,v18.2.2.1,v18.2.2.2),(v11.2.2.1.1,v11.2.2.1.2.1,v11.2.2.1.2.2.1,v11.2.2.1.2.2.2.1,v11.2.2.1.2.2.2.2.1,v11.2.2.1.2.2.2.2.2.1,v11.2.2.1.2.2.2.2.2.2.1,v11.2.2.1.2.2.2.2.2.2.2.1,v18.1,v11.2.2.1.2.2.2.2.2.2.2.2.2.1,v11.2.2.1.2.2.2.2.2.2.2.2.2.2.1,v11.2.2.1.2.2.2.2.2.2.2.2.2.2.2.1,v11.2.2.1.2.2.2.2.2.2.2.2.2.2.2.2),v11.2.2.2.1,v11.2.2.2.2))) none) none))) (cond ((ByteArray.toList v12)==(ByteArray.toList (ByteArray.mk #[116,111,107,101,110]))) (Option.bind (Option.bind (F85 (v11.2.1.1,v11.2.1.2.1)) (fun (v19:(Int×(Int×Int)))=>(cond (v19.2.2 != (0:Int)) (some ((0:Int),v11.2.1.1,v11.2.1.2.1,false)) (some (v19.1,v11.2.1.1,v19.2.1,v11.2.1.2.2))))) (fun (v20:(Int×(ByteArray×(Int×Bool))))=>(cond (decide (v11.2.2.2.1.length=v11.2.2.2.1.length)) (cond (decide (v11.2.2.2.2.length=v11.2.2.2.2.length)) (some (.inl ((IntKind.wrap IntKind.i64 (v11.1+(1:Int))),(v20.2.1,v20.2.2.1,v20.2.2.2),(v11.2.2.1.1,v11.2.2.1.2.1,v11.2.2.1.2.2.1,v11.2.2.1.2.2.2.1,v11.2.2.1.2.2.2.2.1,v11.2.2.1.2.2.2.2.2.1,v11.2.2.1.2.2.2.2.2.2.1,v11.2.2.1.2.2.2.2.2.2.2.1,v11.2.2.1.2.2.2.2.2.2.2.2.1,v11.2.2.1.2.2.2.2.2.2.2.2.2.1,v11.2.2.1.2.2.2.2.2.2.2.2.2.2.1,v20.1,v11.2.2.1.2.2.2.2.2.2.2.2.2.2.2.2),v11.2.2.2.1,v11.2.2.2.2))) none) none))) (cond ((ByteArray.toList v12)==(ByteArray.toList (ByteArray.mk #[119,104,111]))) (Option.bind (Option.bind (Option.bind (F85 (v11.2.1.1,v11.2.1.2.1)) (fun (v21:(Int×(Int×Int)))=>(cond (v21.2.2 != (0:Int)) (some ((0:Int),v11.2.1.1,v11.2.1.2.1,false)) (some (v21.1,v11.2.1.1,v21.2.1,v11.2.1.2.2))))) (fun (v22:(Int×(ByteArray×(Int×Bool))))=>(cond (decide (v22.1 > (1048576:Int))) (some ((0:Int),v22.2.1,v22.2.2.1,false)) (some ((IntKind.wrap IntKind.i64 v22.1),v22.2.1,v22.2.2.1,v22.2.2.2))))) (fun (v23:(Int×(ByteArray×(Int×Bool))))=>(cond (decide (v11.2.2.2.1.length=v11.2.2.2.1.length)) (cond (decide (v11.2.2.2.2.length=v11.2.2.2.2.length)) (some (.inl ((IntKind.wrap IntKind.i64 (v11.1+(1:Int))),(v23.2.1,v23.2.2.1,v23.2.2.2),(v11.2.2.1.1,v11.2.2.1.2.1,v11.2.2.1.2.2.1,v11.2.2.1.2.2.2.1,v23.1,v11.2.2.1.2.2.2.2.2.1,v11.2.2.1.2.2.2.2.2.2.1,v11.2.2.1.2.2.2.2.2.2.2.1,v11.2.2.1.2.2.2.2.2.2.2.2.1,v11.2.2.1.2.2.2.2.2.2.2.2.2.1,v11.2.2.1.2.2.2.2.2.2.2.2.2.2.1,v11.2.2.1.2.2.2.2.2.2.2.2.2.2.2.1,v11.2.2.1.2.2.2.2.2.2.2.2.2.2.2.2),v11.2.2.2.1,v11.2.2.2.2))) none) none))) (cond ((ByteArray.toList v12)==(ByteArray.toList (ByteArray.mk #[107]))) (Option.bind (Option.bind (F85 (v11.2.1.1,v11.2.1.2.1)) (fun (v24:(Int×(Int×Int)))=>(cond (v24.2.2 != (0:Int)) (some ((0:Int),v11.2.1.1,v11.2.1.2.1,false)) (some (v24.1,v11.2.1.1,v24.2.1,v11.2.1.2.2))))) (fun (v25:(Int×(ByteArray×(Int×Bool))))=>(Option.bind (Option.bind (Option.bind (F85 (v25.2.1,v25.2.2.1)) (fun (v26:(Int×(Int×Int)))=>(cond (v26.2.2 != (0:Int)) (some ((0:Int),v25.2.1,v25.2.2.1,false)) (some (v26.1,v25.2.1,v26.2.1,v25.2.2.2))))) (fun (v27:(Int×(ByteArray×(Int×Bool))))=>(cond (decide (v27.1 > (1048576:Int))) (some ((0:Int),v27.2.1,v27.2.2.1,false)) (some ((IntKind.wrap IntKind.i64 v27.1),v27.2.1,v27.2.2.1,v27.2.2.2))))) (fun (v28:(Int×(ByteArray×(Int×Bool))))=>(cond (decide (v11.2.2.2.1.length=v11.2.2.2.1.length)) (cond (decide (v11.2.2.2.2.length=v11.2.2.2.2.length)) (some (.inl ((IntKind.wrap IntKind.i64 (v11.1+(1:Int))),(v28.2.1,v28.2.2.1,v28.2.2.2),(v11.2.2.1.1,v11.2.2.1.2.1,v11.2.2.1.2.2.1,v11.2.2.1.2.2.2.1,v11.2.2.1.2.2.2.2.1,v25.1,v28.1,v11.2.2.1.2.2.2.2.2.2.2.1,v11.2.2.1.2.2.2.2.2.2.2.2.1,v11.2.2.1.2.2.2.2.2.2.2.2.2.1,v11.2.2.1.2.2.2.2.2.2.2.2.2.2.1,v11.2.2.1.2.2.2.2.2.2.2.2.2.2.2.1,v11.2.2.1.2.2.2.2.2.2.2.2.2.2.2.2),v11.2.2.2.1,v11.2.2.2.2))) none) none))))) (cond ((ByteArray.toList v12)==(ByteArray.toList (ByteArray.mk #[110,101,119,115]))) (Option.bind (Option.bind (Option.bind (Option.bind (F85 (v11.2.1.1,v11.2.1.2.1)) (fun (v29:(Int×(Int×Int)))=>(cond (v29.2.2 != (0:Int)) (some ((0:Int),v11.2.1.1,v11.2.1.2.1,false)) (some (v29.1,v11.2.1.1,v29.2.1,v11.2.1.2.2))))) (fun (v30:(Int×(ByteArray×(Int×Bool))))=>(cond (decide (v30.1 > (1048576:Int))) (some ((0:Int),v30.2.1,v30.2.2.1,false)) (some ((IntKind.wrap IntKind.i64 v30.1),v30.2.1,v30.2.2.1,v30.2.2.2))))) (fun (v31:(Int×(ByteArray×(Int×Bool))))=>(cond (decide (v31.1 > (8:Int))) (some ((0:Int),v31.2.1,v31.2.2.1,false)) (some (v31.1,v31.2.1,v31.2.2.1,v31.2.2.2))))) (fun (v32:(Int×(ByteArray×(Int×Bool))))=>(cond (decide (v11.2.2.2.1.length=v11.2.2.2.1.length)) (cond (decide (v11.2.2.2.2.length=v11.2.2.2.2.length)) (loopX (fun (v33:(Int×((ByteArray×(Int×Bool))×((Int×(Int×(Int×(Int×(Int×(Int×(Int×(Int×(Int×(Int×(ByteArray×(Int×Bool))))))))))))×(List (Int×(Int×Int)))))))=>(cond (decide (v33.1 < v32.1)) (Option.bind (Option.bind (Option.bind (F85 (v33.2.1.1,v33.2.1.2.1)) (fun (v34:(Int×(Int×Int)))=>(cond (v34.2.2 != (0:Int)) (some ((0:Int),v33.2.1.1,v33.2.1.2.1,false)) (some (v34.1,v33.2.1.1,v34.2.1,v33.2.1.2.2))))) (fun (v35:(Int×(ByteArray×(Int×Bool))))=>(cond (decide (v35.1 > (1048576:Int))) (some ((0:Int),v35.2.1,v35.2.2.1,false)) (some ((IntKind.wrap IntKind.i64 v35.1),v35.2.1,v35.2.2.1,v35.2.2.2))))) (fun (v36:(Int×(ByteArray×(Int×Bool))))=>(Option.bind (Option.bind (Option.bind (F85 (v36.2.1,v36.2.2.1)) (fun (v37:(Int×(Int×Int)))=>(cond (v37.2.2 != (0:Int)) (some ((0:Int),v36.2.1,v36.2.2.1,false)) (some (v37.1,v36.2.1,v37.2.1,v36.2.2.2))))) (fun (v38:(Int×(ByteArray×(Int×Bool))))=>(Option.bind (Option.bind (Option.bind (F85 (v38.2.1,v38.2.2.1)) (fun (v39:(Int×(Int×Int)))=>(cond (v39.2.2 != (0:Int)) (some ((0:Int),v38.2.1,v38.2.2.1,false)) (some (v39.1,v38.2.1,v39.2.1,v38.2.2.2))))) (fun (v40:(Int×(ByteArray×(Int×Bool))))=>(cond (decide (v40.1 > (1048576:Int))) (some ((0:Int),v40.2.1,v40.2.2.1,false)) (some ((IntKind.wrap IntKind.i64 v40.1),v40.2.1,v40.2.2.1,v40.2.2.2))))) (fun (v41:(Int×(ByteArray×(Int×Bool))))=>(some ((v41.2.1,v41.2.2.1,v41.2.2.2),v38.1,v41.1)))))) (fun (v42:((ByteArray×(Int×Bool))×(Int×Int)))=>(cond ((decide ((0+v33.2.2.2.length)≤v33.2.2.2.length))&&((decide (((((v33.2.2.2.length+1):Nat):Int) * (24:Int))≤(70368744177664:Int)))&&(decide ((((v33.2.2.2.length+1):Nat):Int)≤(70368744177664:Int))))) (cond (decide (((0+v33.2.2.2.length)+1)≤v33.2.2.2.length)) (cond (decide ((v33.2.2.2.length+1)=(Append.append (Append.append (List.take (0+v33.2.2.2.length) v33.2.2.2) ((v36.1,v42.2.1,v42.2.2)::[])) (List.drop ((0+v33.2.2.2.length)+1) v33.2.2.2)).length)) (cond (decide (v11.2.2.2.2.length=v11.2.2.2.2.length)) (some (.inl ((IntKind.wrap IntKind.i64 (v33.1+(1:Int))),(v42.1.1,v42.1.2.1,v42.1.2.2),(v33.2.2.1.1,v33.2.2.1.2.1,v33.2.2.1.2.2.1,v33.2.2.1.2.2.2.1,v33.2.2.1.2.2.2.2.1,v33.2.2.1.2.2.2.2.2.1,v33.2.2.1.2.2.2.2.2.2.1,v33.2.2.1.2.2.2.2.2.2.2.1,v33.2.2.1.2.2.2.2.2.2.2.2.1,v33.2.2.1.2.2.2.2.2.2.2.2.2.1,v33.2.2.1.2.2.2.2.2.2.2.2.2.2.1,v33.2.2.1.2.2.2.2.2.2.2.2.2.2.2.1,v33.2.2.1.2.2.2.2.2.2.2.2.2.2.2.2),(Append.append (Append.append (List.take (0+v33.2.2.2.length) v33.2.2.2) ((v36.1,v42.2.1,v42.2.2)::[])) (List.drop ((0+v33.2.2.2.length)+1) v33.2.2.2))))) none) none) (cond (decide ((v33.2.2.2.length+1)=(Append.append (List.take v33.2.2.2.length v33.2.2.2) ((v36.1,v42.2.1,v42.2.2)::[])).length)) (cond (decide (v11.2.2.2.2.length=v11.2.2.2.2.length)) (some (.inl ((IntKind.wrap IntKind.i64 (v33.1+(1:Int))),(v42.1.1,v42.1.2.1,v42.1.2.2),(v33.2.2.1.1,v33.2.2.1.2.1,v33.2.2.1.2.2.1,v33.2.2.1.2.2.2.1,v33.2.2.1.2.2.2.2.1,v33.2.2.1.2.2.2.2.2.1,v33.2.2.1.2.2.2.2.2.2.1,v33.2.2.1.2.2.2.2.2.2.2.1,v33.2.2.1.2.2.2.2.2.2.2.2.1,v33.2.2.1.2.2.2.2.2.2.2.2.2.1,v33.2.2.1.2.2.2.2.2.2.2.2.2.2.1,v33.2.2.1.2.2.2.2.2.2.2.2.2.2.2.1,v33.2.2.1.2.2.2.2.2.2.2.2.2.2.2.2),(Append.append (List.take v33.2.2.2.length v33.2.2.2) ((v36.1,v42.2.1,v42.2.2)::[]))))) none) none)) none))))) (Option.map (Sum.inr) (cond (decide (v33.2.2.2.length=v33.2.2.2.length)) (cond (decide (v11.2.2.2.2.length=v11.2.2.2.2.length)) (some (.inl ((IntKind.wrap IntKind.i64 (v11.1+(1:Int))),(v33.2.1.1,v33.2.1.2.1,v33.2.1.2.2),(v33.2.2.1.1,v33.2.2.1.2.1,v33.2.2.1.2.2.1,v33.2.2.1.2.2.2.1,v33.2.2.1.2.2.2.2.1,v33.2.2.1.2.2.2.2.2.1,v33.2.2.1.2.2.2.2.2.2.1,v33.2.2.1.2.2.2.2.2.2.2.1,v33.2.2.1.2.2.2.2.2.2.2.2.1,v33.2.2.1.2.2.2.2.2.2.2.2.2.1,v33.2.2.1.2.2.2.2.2.2.2.2.2.2.1,v33.2.2.1.2.2.2.2.2.2.2.2.2.2.2.1,v33.2.2.1.2.2.2.2.2.2.2.2.2.2.2.2),v33.2.2.2,v11.2.2.2.2))) none) none)))) ((0:Int),(v32.2.1,v32.2.2.1,v32.2.2.2),(v11.2.2.1.1,v11.2.2.1.2.1,v11.2.2.1.2.2.1,v11.2.2.1.2.2.2.1,v11.2.2.1.2.2.2.2.1,v11.2.2.1.2.2.2.2.2.1,v11.2.2.1.2.2.2.2.2.2.1,v11.2.2.1.2.2.2.2.2.2.2.1,v11.2.2.1.2.2.2.2.2.2.2.2.1,v11.2.2.1.2.2.2.2.2.2.2.2.2.1,v11.2.2.1.2.2.2.2.2.2.2.2.2.2.1,v11.2.2.1.2.2.2.2.2.2.2.2.2.2.2.1,v11.2.2.1.2.2.2.2.2.2.2.2.2.2.2.2),v11.2.2.2.1)) none) none))) (cond ((ByteArray.toList v12)==(ByteArray.toList (ByteArray.mk #[116,97,98,108,101]))) (Option.bind (Option.bind (Option.bind (Option.bind (F85 (v11.2.1.1,v11.2.1.2.1)) (fun (v43:(Int×(Int×Int)))=>(cond (v43.2.2 != (0:Int)) (some ((0:Int),v11.2.1.1,v11.2.1.2.1,false)) (some (v43.1,v11.2.1.1,v43.2.1,v11.2.1.2.2))))) (fun (v44:(Int×(ByteArray×(Int×Bool))))=>(cond (decide (v44.1 > (1048576:Int))) (some ((0:Int),v44.2.1,v44.2.2.1,false)) (some ((IntKind.wrap IntKind.i64 v44.1),v44.2.1,v44.2.2.1,v44.2.2.2))))) (fun (v45:(Int×(ByteArray×(Int×Bool))))=>(cond (decide (v45.1 > (64:Int))) (some ((0:Int),v45.2.1,v45.2.2.1,false)) (some (v45.1,v45.2.1,v45.2.2.1,v45.2.2.2))))) (fun (v46:(Int×(ByteArray×(Int×Bool))))=>(cond (decide (v11.2.2.2.1.length=v11.2.2.2.1.length)) (cond (decide (v11.2.2.2.2.length=v11.2.2.2.2.length)) (loopX (fun (v47:(Int×((ByteArray×(Int×Bool))×((Int×(Int×(Int×(Int×(Int×(Int×(Int×(Int×(Int×(Int×(ByteArray×(Int×Bool))))))))))))×(List (Int×Int))))))=>(cond (decide (v47.1 < v46.1)) (Option.bind (Option.bind (Option.bind (F85 (v47.2.1.1,v47.2.1.2.1)) (fun (v48:(Int×(Int×Int)))=>(cond (v48.2.2 != (0:Int)) (some ((0:Int),v47.2.1.1,v47.2.1.2.1,false)) (some (v48.1,v47.2.1.1,v48.2.1,v47.2.1.2.2))))) (fun (v49:(Int×(ByteArray×(Int×Bool))))=>(Option.bind (Option.bind (Option.bind (F85 (v49.2.1,v49.2.2.1)) (fun (v50:(Int×(Int×Int)))=>(cond (v50.2.2 != (0:Int)) (some ((0:Int),v49.2.1,v49.2.2.1,false)) (some (v50.1,v49.2.1,v50.2.1,v49.2.2.2))))) (fun (v51:(Int×(ByteArray×(Int×Bool))))=>(cond (decide (v51.1 > (1048576:Int))) (some ((0:Int),v51.2.1,v51.2.2.1,false)) (some ((IntKind.wrap IntKind.i64 v51.1),v51.2.1,v51.2.2.1,v51.2.2.2))))) (fun (v52:(Int×(ByteArray×(Int×Bool))))=>(some ((v52.2.1,v52.2.2.1,v52.2.2.2),v49.1,v52.1)))))) (fun (v53:((ByteArray×(Int×Bool))×(Int×Int)))=>(cond ((decide ((0+v47.2.2.2.length)≤v47.2.2.2.length))&&((decide (((((v47.2.2.2.length+1):Nat):Int) * (16:Int))≤(70368744177664:Int)))&&(decide ((((v47.2.2.2.length+1):Nat):Int)≤(70368744177664:Int))))) (cond (decide (((0+v47.2.2.2.length)+1)≤v47.2.2.2.length)) (cond (decide (v11.2.2.2.1.length=v11.2.2.2.1.length)) (cond (decide ((v47.2.2.2.length+1)=(Append.append (Append.append (List.take (0+v47.2.2.2.length) v47.2.2.2) ((v53.2.1,v53.2.2)::[])) (List.drop ((0+v47.2.2.2.length)+1) v47.2.2.2)).length)) (some (.inl ((IntKind.wrap IntKind.i64 (v47.1+(1:Int))),(v53.1.1,v53.1.2.1,v53.1.2.2),(v47.2.2.1.1,v47.2.2.1.2.1,v47.2.2.1.2.2.1,v47.2.2.1.2.2.2.1,v47.2.2.1.2.2.2.2.1,v47.2.2.1.2.2.2.2.2.1,v47.2.2.1.2.2.2.2.2.2.1,v47.2.2.1.2.2.2.2.2.2.2.1,v47.2.2.1.2.2.2.2.2.2.2.2.1,v47.2.2.1.2.2.2.2.2.2.2.2.2.1,v47.2.2.1.2.2.2.2.2.2.2.2.2.2.1,v47.2.2.1.2.2.2.2.2.2.2.2.2.2.2.1,v47.2.2.1.2.2.2.2.2.2.2.2.2.2.2.2),(Append.append (Append.append (List.take (0+v47.2.2.2.length) v47.2.2.2) ((v53.2.1,v53.2.2)::[])) (List.drop ((0+v47.2.2.2.length)+1) v47.2.2.2))))) none) none) (cond (decide (v11.2.2.2.1.length=v11.2.2.2.1.length)) (cond (decide ((v47.2.2.2.length+1)=(Append.append (List.take v47.2.2.2.length v47.2.2.2) ((v53.2.1,v53.2.2)::[])).length)) (some (.inl ((IntKind.wrap IntKind.i64 (v47.1+(1:Int))),(v53.1.1,v53.1.2.1,v53.1.2.2),(v47.2.2.1.1,v47.2.2.1.2.1,v47.2.2.1.2.2.1,v47.2.2.1.2.2.2.1,v47.2.2.1.2.2.2.2.1,v47.2.2.1.2.2.2.2.2.1,v47.2.2.1.2.2.2.2.2.2.1,v47.2.2.1.2.2.2.2.2.2.2.1,v47.2.2.1.2.2.2.2.2.2.2.2.1,v47.2.2.1.2.2.2.2.2.2.2.2.2.1,v47.2.2.1.2.2.2.2.2.2.2.2.2.2.1,v47.2.2.1.2.2.2.2.2.2.2.2.2.2.2.1,v47.2.2.1.2.2.2.2.2.2.2.2.2.2.2.2),(Append.append (List.take v47.2.2.2.length v47.2.2.2) ((v53.2.1,v53.2.2)::[]))))) none) none)) none))) (Option.map (Sum.inr) (cond (decide (v11.2.2.2.1.length=v11.2.2.2.1.length)) (cond (decide (v47.2.2.2.length=v47.2.2.2.length)) (some (.inl ((IntKind.wrap IntKind.i64 (v11.1+(1:Int))),(v47.2.1.1,v47.2.1.2.1,v47.2.1.2.2),(v47.2.2.1.1,v47.2.2.1.2.1,v47.2.2.1.2.2.1,v47.2.2.1.2.2.2.1,v47.2.2.1.2.2.2.2.1,v47.2.2.1.2.2.2.2.2.1,v47.2.2.1.2.2.2.2.2.2.1,v47.2.2.1.2.2.2.2.2.2.2.1,v47.2.2.1.2.2.2.2.2.2.2.2.1,v47.2.2.1.2.2.2.2.2.2.2.2.2.1,v47.2.2.1.2.2.2.2.2.2.2.2.2.2.1,v47.2.2.1.2.2.2.2.2.2.2.2.2.2.2.1,v47.2.2.1.2.2.2.2.2.2.2.2.2.2.2.2),v11.2.2.2.1,v47.2.2.2))) none) none)))) ((0:Int),(v46.2.1,v46.2.2.1,v46.2.2.2),(v11.2.2.1.1,v11.2.2.1.2.1,v11.2.2.1.2.2.1,v11.2.2.1.2.2.2.1,v11.2.2.1.2.2.2.2.1,v11.2.2.1.2.2.2.2.2.1,v11.2.2.1.2.2.2.2.2.2.1,v11.2.2.1.2.2.2.2.2.2.2.1,v11.2.2.1.2.2.2.2.2.2.2.2.1,v11.2.2.1.2.2.2.2.2.2.2.2.2.1,v11.2.2.1.2.2.2.2.2.2.2.2.2.2.1,v11.2.2.1.2.2.2.2.2.2.2.2.2.2.2.1,v11.2.2.1.2.2.2.2.2.2.2.2.2.2.2.2),v11.2.2.2.2)) none) none))) (cond ((ByteArray.toList v12)==(ByteArray.toList (ByteArray.mk #[97,115,107,101,100]))) (Option.bind (Option.bind (F85 (v11.2.1.1,v11.2.1.2.1)) (fun (v54:(Int×(Int×Int)))=>(cond (v54.2.2 != (0:Int)) (some ((0:Int),v11.2.1.1,v11.2.1.2.1,false)) (some (v54.1,v11.2.1.1,v54.2.1,v11.2.1.2.2))))) (fun (v55:(Int×(ByteArray×(Int×Bool))))=>(cond (decide (v11.2.2.2.1.length=v11.2.2.2.1.length)) (cond (decide (v11.2.2.2.2.length=v11.2.2.2.2.length)) (some (.inl ((IntKind.wrap IntKind.i64 (v11.1+(1:Int))),(v55.2.1,v55.2.2.1,v55.2.2.2),(v11.2.2.1.1,v11.2.2.1.2.1,v11.2.2.1.2.2.1,v11.2.2.1.2.2.2.1,v11.2.2.1.2.2.2.2.1,v11.2.2.1.2.2.2.2.2.1,v11.2.2.1.2.2.2.2.2.2.1,v11.2.2.1.2.2.2.2.2.2.2.1,v11.2.2.1.2.2.2.2.2.2.2.2.1,(IntKind.wrap IntKind.i64 v55.1),v11.2.2.1.2.2.2.2.2.2.2.2.2.2.1,v11.2.2.1.2.2.2.2.2.2.2.2.2.2.2.1,v11.2.2.1.2.2.2.2.2.2.2.2.2.2.2.2),v11.2.2.2.1,v11.2.2.2.2))) none) none))) (cond ((ByteArray.toList v12)==(ByteArray.toList (ByteArray.mk #[116,97,115,107]))) (Option.bind (Option.bind (F89 (v11.2.1.1,v11.2.1.2.1)) (fun (v56:(ByteArray×(Int×Int)))=>(cond (v56.2.2 != (0:Int)) (cond (decide (v11.2.2.2.1.length=v11.2.2.2.1.length)) (cond (decide (v11.2.2.2.2.length=v11.2.2.2.2.length)) (some ((v11.2.1.1,v11.2.1.2.1,false),v11.2.2.1.1,v11.2.2.1.2.1,v11.2.2.1.2.2.1,v11.2.2.1.2.2.2.1,v11.2.2.1.2.2.2.2.1,v11.2.2.1.2.2.2.2.2.1,v11.2.2.1.2.2.2.2.2.2.1,v11.2.2.1.2.2.2.2.2.2.2.1,v11.2.2.1.2.2.2.2.2.2.2.2.1,v11.2.2.1.2.2.2.2.2.2.2.2.2.1,v11.2.2.1.2.2.2.2.2.2.2.2.2.2.1,v11.2.2.1.2.2.2.2.2.2.2.2.2.2.2.1,v11.2.2.1.2.2.2.2.2.2.2.2.2.2.2.2)) none) none) (cond (decide (v11.2.2.2.1.length=v11.2.2.2.1.length)) (cond (decide (v11.2.2.2.2.length=v11.2.2.2.2.length)) (some ((v11.2.1.1,v56.2.1,v11.2.1.2.2),v11.2.2.1.1,v11.2.2.1.2.1,v11.2.2.1.2.2.1,v11.2.2.1.2.2.2.1,v11.2.2.1.2.2.2.2.1,v11.2.2.1.2.2.2.2.2.1,v11.2.2.1.2.2.2.2.2.2.1,v11.2.2.1.2.2.2.2.2.2.2.1,v11.2.2.1.2.2.2.2.2.2.2.2.1,v11.2.2.1.2.2.2.2.2.2.2.2.2.1,v56.1,v11.2.2.1.2.2.2.2.2.2.2.2.2.2.2.1,v11.2.2.1.2.2.2.2.2.2.2.2.2.2.2.2)) none) none)))) (fun (v57:((ByteArray×(Int×Bool))×(Int×(Int×(Int×(Int×(Int×(Int×(Int×(Int×(Int×(Int×(ByteArray×(Int×Bool))))))))))))))=>(cond (decide (v11.2.2.2.1.length=v11.2.2.2.1.length)) (cond (decide (v11.2.2.2.2.length=v11.2.2.2.2.length)) (some (.inl ((IntKind.wrap IntKind.i64 (v11.1+(1:Int))),(v57.1.1,v57.1.2.1,v57.1.2.2),(v57.2.1,v57.2.2.1,v57.2.2.2.1,v57.2.2.2.2.1,v57.2.2.2.2.2.1,v57.2.2.2.2.2.2.1,v57.2.2.2.2.2.2.2.1,v57.2.2.2.2.2.2.2.2.1,v57.2.2.2.2.2.2.2.2.2.1,v57.2.2.2.2.2.2.2.2.2.2.1,v57.2.2.2.2.2.2.2.2.2.2.2.1,v57.2.2.2.2.2.2.2.2.2.2.2.2.1,v57.2.2.2.2.2.2.2.2.2.2.2.2.2),v11.2.2.2.1,v11.2.2.2.2))) none) none))) (cond ((ByteArray.toList v12)==(ByteArray.toList (ByteArray.mk #[103,111,111,100]))) (Option.bind (Option.bind (Option.bind (Option.bind (F85 (v11.2.1.1,v11.2.1.2.1)) (fun (v58:(Int×(Int×Int)))=>(cond (v58.2.2 != (0:Int)) (some ((0:Int),v11.2.1.1,v11.2.1.2.1,false)) (some (v58.1,v11.2.1.1,v58.2.1,v11.2.1.2.2))))) (fun (v59:(Int×(ByteArray×(Int×Bool))))=>(cond (decide (v59.1 > (1048576:Int))) (some ((0:Int),v59.2.1,v59.2.2.1,false)) (some ((IntKind.wrap IntKind.i64 v59.1),v59.2.1,v59.2.2.1,v59.2.2.2))))) (fun (v60:(Int×(ByteArray×(Int×Bool))))=>(cond (decide (v60.1 > (1:Int))) (some ((0:Int),v60.2.1,v60.2.2.1,false)) (some (v60.1,v60.2.1,v60.2.2.1,v60.2.2.2))))) (fun (v61:(Int×(ByteArray×(Int×Bool))))=>(cond (decide (v11.2.2.2.1.length=v11.2.2.2.1.length)) (cond (decide (v11.2.2.2.2.length=v11.2.2.2.2.length)) (some (.inl ((IntKind.wrap IntKind.i64 (v11.1+(1:Int))),(v61.2.1,v61.2.2.1,v61.2.2.2),(v11.2.2.1.1,v11.2.2.1.2.1,v11.2.2.1.2.2.1,v11.2.2.1.2.2.2.1,v11.2.2.1.2.2.2.2.1,v11.2.2.1.2.2.2.2.2.1,v11.2.2.1.2.2.2.2.2.2.1,v11.2.2.1.2.2.2.2.2.2.2.1,v11.2.2.1.2.2.2.2.2.2.2.2.1,v11.2.2.1.2.2.2.2.2.2.2.2.2.1,v11.2.2.1.2.2.2.2.2.2.2.2.2.2.1,v11.2.2.1.2.2.2.2.2.2.2.2.2.2.2.1,(v61.1==(1:Int))),v11.2.2.2.1,v11.2.2.2.2))) none) none))) none))))))))))))) none) (Option.map (Sum.inr) (cond (decide (v11.2.2.2.1.length=v11.2.2.2.1.length)) (cond (decide (v11.2.2.2.2.length=v11.2.2.2.2.length)) (some ((v11.2.1.1,v11.2.1.2.1,v11.2.1.2.2),(v11.2.2.1.1,v11.2.2.1.2.1,v11.2.2.1.2.2.1,v11.2.2.1.2.2.2.1,v11.2.2.1.2.2.2.2.1,v11.2.2.1.2.2.2.2.2.1,v11.2.2.1.2.2.2.2.2.2.1,v11.2.2.1.2.2.2.2.2.2.2.1,v11.2.2.1.2.2.2.2.2.2.2.2.1,v11.2.2.1.2.2.2.2.2.2.2.2.2.1,v11.2.2.1.2.2.2.2.2.2.2.2.2.2.1,v11.2.2.1.2.2.2.2.2.2.2.2.2.2.2.1,v11.2.2.1.2.2.2.2.2.2.2.2.2.2.2.2),v11.2.2.2.1,v11.2.2.2.2)) none) none)))) ((0:Int),(v9.2.1,v9.2.2.1,v9.2.2.2),(v3.1,v6.1,v9.1,(0:Int),(0:Int),(0:Int),(0:Int),(0:Int),(0:Int),(0:Int),(ByteArray.mk #[]),(0:Int),false),[],[])))) (fun (v62:((ByteArray×(Int×Bool))×((Int×(Int×(Int×(Int×(Int×(Int×(Int×(Int×(Int×(Int×(ByteArray×(Int×Bool))))))))))))×((List (Int×(Int×Int)))×(List (Int×Int))))))=>(Option.bind (cond (!v62.1.2.2) (some true) (cond (v62.1.2.1 != (((ByteArray.size v0.1):Nat):Int)) (some true) (cond (decide ((0+v62.2.2.1.length)≤v62.2.2.1.length)) (cond (decide ((0+v62.2.2.2.length)≤v62.2.2.2.length)) (Option.bind (F11 (v62.2.1.1,v62.2.1.2.1,v62.2.1.2.2.1,v62.2.1.2.2.2.1,v62.2.1.2.2.2.2.1,v62.2.1.2.2.2.2.2.1,v62.2.1.2.2.2.2.2.2.1,(List.take v62.2.2.1.length v62.2.2.1),(List.take v62.2.2.2.length v62.2.2.2),v62.2.1.2.2.2.2.2.2.2.1,v62.2.1.2.2.2.2.2.2.2.2.1,v62.2.1.2.2.2.2.2.2.2.2.2.1,v62.2.1.2.2.2.2.2.2.2.2.2.2.1,v62.2.1.2.2.2.2.2.2.2.2.2.2.2.1,v62.2.1.2.2.2.2.2.2.2.2.2.2.2.2)) (fun (v63:Int)=>(some (v63 != (0:Int))))) none) none))) (fun (v64:Bool)=>(cond v64 (some (((0:Int),(0:Int),(0:Int),(0:Int),(0:Int),(0:Int),(0:Int),[],[],(0:Int),(0:Int),(0:Int),(ByteArray.mk #[]),(0:Int),false),(2:Int))) (cond (decide ((0+v62.2.2.1.length)≤v62.2.2.1.length)) (cond (decide ((0+v62.2.2.2.length)≤v62.2.2.2.length)) (some ((v62.2.1.1,v62.2.1.2.1,v62.2.1.2.2.1,v62.2.1.2.2.2.1,v62.2.1.2.2.2.2.1,v62.2.1.2.2.2.2.2.1,v62.2.1.2.2.2.2.2.2.1,(List.take v62.2.2.1.length v62.2.2.1),(List.take v62.2.2.2.length v62.2.2.2),v62.2.1.2.2.2.2.2.2.2.1,v62.2.1.2.2.2.2.2.2.2.2.1,v62.2.1.2.2.2.2.2.2.2.2.2.1,v62.2.1.2.2.2.2.2.2.2.2.2.2.1,v62.2.1.2.2.2.2.2.2.2.2.2.2.2.1,v62.2.1.2.2.2.2.2.2.2.2.2.2.2.2),(0:Int))) none) none))))))))))))))):=by kernel_rfl
theorem F89_eq (v:(ByteArray×Int)):F89 v=(Option.bind (F85 (v.1,v.2)) (fun (v0:(Int×(Int×Int)))=>(cond (v0.2.2 != (0:Int)) (some ((ByteArray.mk #[]),(0:Int),v0.2.2)) (cond (decide (v0.1 > (200:Int))) (some ((ByteArray.mk #[]),(0:Int),(4:Int))) (cond (decide ((IntKind.wrap IntKind.i64 v0.1) > (IntKind.wrap IntKind.i64 ((((ByteArray.size v.1):Nat):Int) - v0.2.1)))) (some ((ByteArray.mk #[]),(0:Int),(3:Int))) (cond ((decide ((0:Int)≤v0.2.1))&&((decide (v0.2.1≤(IntKind.wrap IntKind.i64 (v0.2.1+(IntKind.wrap IntKind.i64 v0.1)))))&&(decide ((IntKind.wrap IntKind.i64 (v0.2.1+(IntKind.wrap IntKind.i64 v0.1)))≤(((ByteArray.size v.1):Nat):Int))))) (some ((ByteArray.extract v.1 (Int.toNat v0.2.1) (Int.toNat (IntKind.wrap IntKind.i64 (v0.2.1+(IntKind.wrap IntKind.i64 v0.1))))),(IntKind.wrap IntKind.i64 (v0.2.1+(IntKind.wrap IntKind.i64 v0.1))),(0:Int))) none)))))):=by kernel_rfl
end Go.Proofs.Ytgbcankkfmhcoaa.VL
end
section
namespace Go.Proofs.Ytgbcankkfmhcoaa.VL
open Go
set_option linter.unusedVariables false
set_option linter.unusedSectionVars false
set_option linter.unusedSimpArgs false
set_option maxRecDepth 100000
variable [Val]
def tk:Nat→Nat→List UInt8→Nat×(Nat×Nat)
 | _,_,[]=>(0,0,3)
 | i,n,c::r=>if (0 < i∧c.toNat=0)∨(i=9∧1 < c.toNat) then (0,0,2) else if c.toNat < 128 then (n+c.toNat % 128 * 128 ^ i,i+1,0) else tk (i+1) (n+c.toNat % 128 * 128 ^ i) r
def tkR (a:Nat) (r:Nat×(Nat×Nat)):Int×(Int×Int):=(((r.1:Nat):Int),(if r.2.2=0 then ((a+r.2.1:Nat):Int) else 0,((r.2.2:Nat):Int)))
theorem and_tab:∀ r:Fin 256,IntKind.wrap .u8 (((((BitVec.ofInt 8 ((r.val:Nat):Int)).and (BitVec.ofInt 8 127)).toNat:Nat)):Int)=((r.val % 128:Nat):Int):=by decide +kernel
theorem and_c (c:UInt8):IntKind.wrap .u8 (((((BitVec.ofInt 8 ((c.toNat:Nat):Int)).and (BitVec.ofInt 8 127)).toNat:Nat)):Int)=((c.toNat % 128:Nat):Int):=and_tab ⟨c.toNat,c.toNat_lt⟩
theorem bv64 {n:Nat} (h:n < 18446744073709551616):(BitVec.ofInt 64 ((n:Nat):Int)).toNat=n:=by
 rw [BitVec.toNat_ofInt]; omega
theorem or64 {n m i:Nat} (hn:n < 128 ^ i) (hm:m * 128 ^ i < 18446744073709551616) (hi:i≤9):((BitVec.ofInt 64 ((n:Nat):Int)).or (BitVec.ofInt 64 ((m * 128 ^ i:Nat):Int))).toNat=n+m * 128 ^ i:=by
 have h9:128 ^ i≤128 ^ 9:=Nat.pow_le_pow_right (by omega) hi
 have e9:(128:Nat) ^ 9=9223372036854775808:=by decide
 have hb:n < 18446744073709551616:=by omega
 show ((BitVec.ofInt 64 ((n:Nat):Int)) ||| (BitVec.ofInt 64 ((m * 128 ^ i:Nat):Int))).toNat=_
 rw [BitVec.toNat_or,bv64 hb,bv64 hm]
 have e:128 ^ i=2 ^ (7 * i):=by rw [Nat.pow_mul]
 rw [e] at hn ⊢
 have:=Nat.two_pow_add_eq_or_of_lt hn m
 rw [Nat.or_comm,Nat.mul_comm m,← this,Nat.add_comm]
theorem pow_i {i:Nat} (hi:i≤9):Int.pow 2 (min (Int.toNat (IntKind.wrap .i64 (7 * ((i:Nat):Int)))) 64)=((128 ^ i:Nat):Int):=by
 rw [wi (by omega) (by omega)]
 have e:(7 * ((i:Nat):Int)).toNat=7 * i:=by omega
 rw [e,Nat.min_eq_left (by omega)]
 have e2:128 ^ i=2 ^ (7 * i):=by rw [Nat.pow_mul]
 rw [e2]
 show (2:Int) ^ (7 * i)=_
 rw [Int.natCast_pow]; rfl
theorem tk_step {i n c:Nat} (hi:i≤9) (hn:n < 128 ^ i) (h9:i=9→c≤1) (hc:c < 256):n+c % 128 * 128 ^ i < 18446744073709551616∧(i < 9→n+c % 128 * 128 ^ i < 128 ^ (i+1))∧c % 128 * 128 ^ i < 18446744073709551616:=by
 have hp:0 < 128 ^ i:=Nat.pos_of_ne_zero (by
  have:=Nat.pow_pos (n:=i) (show 0 < 128 by omega)
  omega)
 by_cases h:i=9
 ·subst h
  have:=h9 rfl
  have e9:(128:Nat) ^ 9=9223372036854775808:=by decide
  rw [e9] at hn ⊢
  have e:c % 128=c:=by omega
  rw [e]
  clear h9 e9 hp
  refine ⟨?_,fun q=>absurd q (Nat.lt_irrefl 9),?_⟩<;>(rcases Nat.le_one_iff_eq_zero_or_eq_one.1 this with q | q<;>rw [q]<;>clear q this e<;>simp only [Nat.zero_mul,Nat.one_mul,Nat.add_zero]<;>omega)
 ·have e:n+c % 128 * 128 ^ i < 128 ^ (i+1):=by
   rw [Nat.pow_succ]
   have h1:c % 128≤127:=by omega
   have h2:c % 128 * 128 ^ i≤127 * 128 ^ i:=Nat.mul_le_mul_right _ h1
   omega
  have h9':128 ^ (i+1)≤128 ^ 9:=Nat.pow_le_pow_right (by omega) (by omega)
  have e9:(128:Nat) ^ 9=9223372036854775808:=by decide
  exact ⟨by omega,fun _=>e,by omega⟩
theorem bad_ok (i c:Nat):(cond (decide (((i:Nat):Int) > 0)) (cond (((c:Nat):Int)==0) (some true) (cond (((i:Nat):Int)==9) (some (decide (((c:Nat):Int) > 1))) (some false))) (cond (((i:Nat):Int)==9) (some (decide (((c:Nat):Int) > 1))) (some false)))=some (decide ((0 < i∧c=0)∨(i=9∧1 < c))):=by
 have e1:(((c:Nat):Int)==0)=decide (c=0):=by rw [Bool.eq_iff_iff]; simp
 have e2:(((i:Nat):Int)==9)=decide (i=9):=by rw [Bool.eq_iff_iff]; simp; omega
 have e3:decide (((i:Nat):Int) > 0)=decide (0 < i):=by rw [Bool.eq_iff_iff]; simp
 have e4:decide (((c:Nat):Int) > 1)=decide (1 < c):=by rw [Bool.eq_iff_iff]; simp; omega
 rw [e1,e2,e3,e4]
 by_cases h1:0 < i<;>by_cases h2:c=0<;>by_cases h3:i=9<;>by_cases h4:1 < c<;>simp [h1,h2,h3,h4]
theorem ba_at {s:ByteArray} {i:Nat} (h:i < s.toList.length):s[i]?=some s.toList[i]:=by
 have hi:i < s.size:=by rw [toList_len] at h; exact h
 have:=ba_get hi
 rw [Int.toNat_natCast] at this
 rw [this]
 congr 1
 have h1:i < s.data.size:=hi
 have h2:s.get! i=s.data[i]:=by
  show s.data[i]! = _
  rw [getElem!_pos s.data i h1]
 rw [h2]
 have h3:∀ (l:List UInt8) (e:l=s.data.toList) (hi:i < l.length),s.data[i]=l[i]:=by
  intro l e hi; subst e; simp
 exact h3 _ (toList_data s) _
theorem F85_ok {s:ByteArray} {a:Nat} (ha:a≤s.size) (hs:s.size≤4611686018427387904):F85 (s,((a:Nat):Int))=some (tkR a (tk 0 0 (s.toList.drop a))):=by
 rw [F85_eq]
 have p1:¬ ((a:Nat):Int) < 0:=by omega
 have p2:¬ ((a:Nat):Int) > ((s.size:Nat):Int):=by omega
 simp -implicitDefEqProofs only [p1,p2,eq_self,xs]
 have el:IntKind.wrap .i64 (((s.size:Nat):Int) - ((a:Nat):Int))=((s.size - a:Nat):Int):=by rw [wi (by omega) (by omega)]; omega
 rw [el]
 rw [loopX_spec (ρ:=Int×(Int×Int)) (fun x:Int×Int=>∃ n i:Nat,x=(((n:Nat):Int),((i:Nat):Int))∧i≤s.size - a∧i≤10∧(i≤9→n < 128 ^ i)∧(i=10→False)) (fun x=>s.size - a - x.2.toNat) (fun x=>tkR a (tk x.2.toNat x.1.toNat (s.toList.drop (a+x.2.toNat)))) ?_ (0,0) ⟨0,0,rfl,by omega,by omega,fun _=>by decide,fun h=>by omega⟩]
 ·rfl
 ·rintro _ ⟨n,i,rfl,h1,h2,h3,h4⟩
  have hi:i≤9:=by
   rcases Nat.lt_or_ge i 10 with h | h
   ·omega
   ·exact absurd (by omega) h4
  have hn:=h3 hi
  simp only [Int.toNat_natCast]
  by_cases hl:i < s.size - a
  ·have q1:((i:Nat):Int) < ((s.size - a:Nat):Int):=by omega
   have ew:IntKind.wrap .i64 (((a:Nat):Int)+((i:Nat):Int))=((a+i:Nat):Int):=by rw [wi (by omega) (by omega)]; omega
   have ew2:IntKind.wrap .i64 (((a+i:Nat):Int)+1)=((a+(i+1):Nat):Int):=by rw [wi (by omega) (by omega)]; omega
   have ew3:IntKind.wrap .i64 (((i:Nat):Int)+1)=((i+1:Nat):Int):=by rw [wi (by omega) (by omega)]; omega
   have q2:(0:Int)≤((a+i:Nat):Int):=by omega
   have hlt:a+i < s.size:=by omega
   have hlt2:a+i < s.toList.length:=by rw [toList_len]; omega
   have g:s[a+i]?=some s.toList[a+i]:=ba_at hlt2
   have hd:s.toList.drop (a+i)=s.toList[a+i]::s.toList.drop (a+(i+1)):=by
    rw [List.drop_eq_getElem_cons hlt2]; rfl
   rw [hd]
   generalize s.toList[a+i]=c at *
   have hc:c.toNat < 256:=c.toNat_lt
   have q3:¬ IntKind.wrap .i64 (7 * ((i:Nat):Int)) < 0:=by rw [wi (by omega) (by omega)]; omega
   have bk:=bad_ok i c.toNat
   have ac:=and_c c
   have pw:=pow_i hi
   by_cases hb:(0 < i∧c.toNat=0)∨(i=9∧1 < c.toNat)
   ·left
    rw [decide_eq_true hb] at bk
    simp only [tk,if_pos hb]
    simp -implicitDefEqProofs only [q1,ew,q2,g,bk,eq_self,xs]
    rfl
   ·rw [decide_eq_false hb] at bk
    obtain ⟨t1,t2,t3⟩:=tk_step hi hn (fun h=>by omega) hc
    have u1:IntKind.wrap .u64 ((c.toNat % 128:Nat):Int)=((c.toNat % 128:Nat):Int):=wu (by omega) (by omega)
    have u2:IntKind.wrap .u64 (((c.toNat % 128:Nat):Int) * ((128 ^ i:Nat):Int))=((c.toNat % 128 * 128 ^ i:Nat):Int):=by
     rw [← Int.natCast_mul]; exact wu (by omega) (by omega)
    have u3:=or64 hn t3 hi
    have u4:IntKind.wrap .u64 ((n+c.toNat % 128 * 128 ^ i:Nat):Int)=((n+c.toNat % 128 * 128 ^ i:Nat):Int):=wu (by omega) (by omega)
    by_cases hd:c.toNat < 128
    ·left
     have d1:((c.toNat:Nat):Int) < 128:=by omega
     simp only [tk,if_neg hb,if_pos hd]
     simp -implicitDefEqProofs only [q1,ew,q2,g,bk,q3,d1,ac,u1,pw,u2,u3,u4,ew2,eq_self,xs]
     rfl
    ·right
     have d1:¬ ((c.toNat:Nat):Int) < 128:=by omega
     have hi8:i < 9:=by omega
     refine ⟨(((n+c.toNat % 128 * 128 ^ i:Nat):Int),((i+1:Nat):Int)),?_,⟨_,_,rfl,by omega,by omega,fun _=>t2 hi8,fun h=>by omega⟩,by simp only [Int.toNat_natCast]; omega,?_⟩
     ·simp -implicitDefEqProofs only [q1,ew,q2,g,bk,q3,d1,ac,u1,pw,u2,u3,u4,ew3,eq_self,xs]
     ·simp only [Int.toNat_natCast,tk,if_neg hb,if_neg hd]
  ·have q1:¬ ((i:Nat):Int) < ((s.size - a:Nat):Int):=by omega
   left
   have:s.toList.drop (a+i)=[]:=List.drop_eq_nil_of_le (by rw [toList_len]; omega)
   rw [this]
   simp -implicitDefEqProofs only [q1,eq_self,xs]
   rfl
theorem tk_num:∀ (k x i n:Nat) (r:List UInt8),x < 128 ^ (k+1)→i+k≤9→(i+k=9→x < 2 * 128 ^ k)→(0 < i→0 < x)→tk i n ((numZ x).map bI++r)=(n+x * 128 ^ i,i+(numZ x).length,0):=by
 intro k
 induction k with
 | zero =>
  intro x i n r h1 h2 h3 h4
  have hs:x≤127:=by simp at h1; omega
  unfold numZ
  rw [hiZ_small hs,loZ_small hs]
  have hb:(bI ((x:Nat):Int)).toNat=x:=by rw [bI_toNat,Int.toNat_natCast]; omega
  simp only [List.nil_append,List.map_cons,List.map_nil,List.cons_append,tk,hb,List.length_cons,List.length_nil]
  rw [if_neg (by
   rintro (⟨a,b⟩ | ⟨a,b⟩)
   ·have:=h4 a; omega
   ·have:=h3 (by omega); simp at this; omega),if_pos (by omega)]
  rw [Nat.mod_eq_of_lt (by omega)]
 | succ k ih =>
  intro x i n r h1 h2 h3 h4
  by_cases hs:x≤127
  ·unfold numZ
   rw [hiZ_small hs,loZ_small hs]
   have hb:(bI ((x:Nat):Int)).toNat=x:=by rw [bI_toNat,Int.toNat_natCast]; omega
   simp only [List.nil_append,List.map_cons,List.map_nil,List.cons_append,tk,hb,List.length_cons,List.length_nil]
   rw [if_neg (by
    rintro (⟨a,b⟩ | ⟨a,b⟩)
    ·have:=h4 a; omega
    ·omega),if_pos (by omega)]
   rw [Nat.mod_eq_of_lt (by omega)]
  ·have e:numZ x=((128+x % 128:Nat):Int)::numZ (x / 128):=by
    unfold numZ
    rw [hiZ_big hs,loZ_big hs]; rfl
   have hb:(bI ((128+x % 128:Nat):Int)).toNat=128+x % 128:=by rw [bI_toNat,Int.toNat_natCast]; omega
   rw [e]
   simp only [List.map_cons,List.cons_append,tk,hb,List.length_cons]
   rw [if_neg (by rintro (⟨a,b⟩ | ⟨a,b⟩)<;>omega),if_neg (by omega)]
   rw [ih (x / 128) (i+1) _ r (by rw [Nat.div_lt_iff_lt_mul (by omega)]; rw [Nat.pow_succ] at h1; exact h1) (by omega) (fun hk=>by
    have:=h3 (by omega)
    rw [Nat.div_lt_iff_lt_mul (by omega)]
    rw [Nat.pow_succ] at this
    rw [Nat.mul_assoc]; exact this) (fun _=>by omega)]
   have e1:(128+x % 128) % 128=x % 128:=by omega
   rw [e1]
   refine Prod.ext ?_ (Prod.ext ?_ rfl)
   ·show n+x % 128 * 128 ^ i+x / 128 * 128 ^ (i+1)=n+x * 128 ^ i
    have e2:x / 128 * 128 ^ (i+1)=x / 128 * 128 * 128 ^ i:=by rw [Nat.pow_succ,Nat.mul_comm (128 ^ i) 128,Nat.mul_assoc]
    have e3:x * 128 ^ i=(x % 128+x / 128 * 128) * 128 ^ i:=by
     congr 1; omega
    rw [e2,e3,Nat.add_mul,Nat.add_assoc]
   ·show i+1+(numZ (x / 128)).length=i+((numZ (x / 128)).length+1)
    omega
theorem tk_ok {x:Int} (h:U64 x) (r:List UInt8):tk 0 0 (numU x++r)=(x.toNat,(numU x).length,0):=by
 unfold numU
 have e9:(128:Nat) ^ (9+1)=1180591620717411303424:=by decide
 have e8:2 * (128:Nat) ^ 9=18446744073709551616:=by decide
 obtain ⟨h1,h2⟩:=h
 rw [tk_num 9 x.toNat 0 0 r (by rw [e9]; omega) (by omega) (fun _=>by rw [e8]; omega) (fun q=>absurd q (Nat.lt_irrefl 0))]
 rw [List.length_map]
 refine Prod.ext ?_ (Prod.ext ?_ rfl)
 ·show 0+x.toNat * 128 ^ 0=x.toNat
  rw [Nat.pow_zero]; omega
 ·show 0+(numZ x.toNat).length=(numZ x.toNat).length
  omega
theorem tk_inv:∀ (l:List UInt8) (i n:Nat),i≤9→(tk i n l).2.2=0→∃ x r,l=(numZ x).map bI++r∧(0 < i→0 < x)∧x * 128 ^ i < 18446744073709551616∧tk i n l=(n+x * 128 ^ i,i+(numZ x).length,0):=by
 intro l
 induction l with
 | nil=>intro i n _ h; simp [tk] at h
 | cons c r ih =>
  intro i n hi h
  have hc:c.toNat < 256:=c.toNat_lt
  simp only [tk] at h ⊢
  by_cases hb:(0 < i∧c.toNat=0)∨(i=9∧1 < c.toNat)
  ·rw [if_pos hb] at h; simp at h
  ·rw [if_neg hb] at h ⊢
   by_cases hd:c.toNat < 128
   ·rw [if_pos hd] at h ⊢
    refine ⟨c.toNat,r,?_,fun hi=>Nat.pos_of_ne_zero (fun e=>hb (.inl ⟨hi,e⟩)),?_,?_⟩
    ·unfold numZ
     rw [hiZ_small (by omega),loZ_small (by omega)]
     simp only [List.nil_append,List.map_cons,List.map_nil,List.cons_append]
     congr 1
     apply UInt8.toNat_inj.1
     rw [bI_toNat,Int.toNat_natCast]; omega
    ·by_cases h9:i=9
     ·subst h9
      have e9:(128:Nat) ^ 9=9223372036854775808:=by decide
      rw [e9]
      have:c.toNat≤1:=by
       rcases Nat.lt_or_ge 1 c.toNat with q | q
       ·exact absurd (.inr ⟨rfl,q⟩) hb
       ·exact q
      have:=Nat.mul_le_mul_right 9223372036854775808 this
      exact Nat.lt_of_le_of_lt this (by decide)
     ·have h8:128 ^ i≤128 ^ 8:=Nat.pow_le_pow_right (by omega) (by omega)
      have:=Nat.mul_le_mul (show c.toNat≤128 by omega) h8
      exact Nat.lt_of_le_of_lt this (by decide)
    ·rw [Nat.mod_eq_of_lt hd]
     unfold numZ
     rw [hiZ_small (by omega)]; rfl
   ·rw [if_neg hd] at h ⊢
    have h8:i≤8:=by
     rcases Nat.lt_or_ge i 9 with q | q
     ·omega
     ·exact absurd (.inr ⟨by omega,by omega⟩) hb
    obtain ⟨x,r',e1,e2,e3,e4⟩:=ih (i+1) _ (by omega) h
    have hx:=e2 (by omega)
    have e5:numZ (c.toNat % 128+128 * x)=((c.toNat:Nat):Int)::numZ x:=by
     unfold numZ
     rw [hiZ_big (n:=c.toNat % 128+128 * x) (by omega),loZ_big (n:=c.toNat % 128+128 * x) (by omega)]
     have a:(c.toNat % 128+128 * x) / 128=x:=by omega
     have b:128+(c.toNat % 128+128 * x) % 128=c.toNat:=by omega
     rw [a,b]; rfl
    have e6:(c.toNat % 128+128 * x) * 128 ^ i=c.toNat % 128 * 128 ^ i+x * 128 ^ (i+1):=by
     rw [Nat.add_mul,Nat.pow_succ,Nat.mul_comm (128 ^ i) 128,← Nat.mul_assoc,Nat.mul_comm x 128]
    refine ⟨c.toNat % 128+128 * x,r',?_,fun _=>by omega,?_,?_⟩
    ·rw [e5,e1]
     simp only [List.map_cons,List.cons_append]
     congr 1
     apply UInt8.toNat_inj.1
     rw [bI_toNat,Int.toNat_natCast]; omega
    ·rw [e6]
     have hD:=(show ∀ j:Fin 9,18446744073709551616=2 ^ (64 - 7 * (j.val+1)) * 128 ^ (j.val+1) by decide) ⟨i,by omega⟩
     simp only at hD
     rw [hD] at e3 ⊢
     have hp:0 < 128 ^ (i+1):=Nat.pow_pos (by omega)
     have hp2:0 < 128 ^ i:=Nat.pow_pos (by omega)
     have hlt:=Nat.lt_of_mul_lt_mul_right e3
     have a:=Nat.mul_le_mul_right (128 ^ (i+1)) (show x+1≤_ from hlt)
     rw [Nat.add_mul] at a
     have b:c.toNat % 128 * 128 ^ i < 128 ^ (i+1):=by
      rw [Nat.pow_succ,Nat.mul_comm (128 ^ i)]
      exact Nat.mul_lt_mul_of_pos_right (Nat.mod_lt _ (by omega)) hp2
     generalize 2 ^ (64 - 7 * (i+1)) * 128 ^ (i+1)=A at *
     omega
    ·rw [e4,e5,e6]
     refine Prod.ext ?_ (Prod.ext ?_ rfl)
     ·show _+_+_=_+(_+_)
      omega
     ·show i+1+_=i+(_+1)
      omega
theorem tk_num_inv {l:List UInt8} (h:(tk 0 0 l).2.2=0):∃ (x:Int) (r:List UInt8),U64 x∧l=numU x++r∧tk 0 0 l=(x.toNat,(numU x).length,0):=by
 obtain ⟨x,r,e1,_,e3,e4⟩:=tk_inv l 0 0 (by omega) h
 rw [Nat.pow_zero,Nat.mul_one] at e3
 refine ⟨(x:Int),r,⟨by omega,by omega⟩,by unfold numU; rw [Int.toNat_natCast]; exact e1,?_⟩
 rw [e4]
 unfold numU
 rw [Int.toNat_natCast,List.length_map,Nat.pow_zero,Nat.mul_one,Nat.zero_add,Nat.zero_add]
theorem take_num {s:ByteArray} (hs:s.size≤4611686018427387904) {A:List UInt8} {a:Nat} {R:List UInt8} (hA:s.toList=A++R) (ha:a=A.length) :
  (∃ x r,U64 x∧R=numU x++r∧F85 (s,((a:Nat):Int))=some (x,((a+(numU x).length:Nat):Int),0)) ∨
  ((∀ x r,U64 x→R≠numU x++r)∧∃ e:Int,e≠0∧F85 (s,((a:Nat):Int))=some (0,0,e)):=by
 have hl:=toList_len s
 rw [hA,List.length_append] at hl
 have e:=F85_ok (s:=s) (a:=a) (by omega) hs
 have hd:s.toList.drop a=R:=by rw [hA,ha,List.drop_left]
 rw [hd] at e
 by_cases h0:(tk 0 0 R).2.2=0
 ·left
  obtain ⟨x,r,hx,h1,h2⟩:=tk_num_inv h0
  refine ⟨x,r,hx,h1,?_⟩
  rw [e,h2]
  unfold tkR
  have:((x.toNat:Nat):Int)=x:=by have:=hx.1; omega
  simp only [this,if_true]
  rfl
 ·right
  refine ⟨fun x r hx hr=>h0 (by rw [hr,tk_ok hx]),(((tk 0 0 R).2.2:Nat):Int),by omega,?_⟩
  have hz:∀ (l:List UInt8) (i n:Nat),(tk i n l).2.2≠0→(tk i n l).1=0:=by
   intro l
   induction l with
   | nil=>intro i n _; rfl
   | cons c r ih =>
    intro i n h
    simp only [tk] at h ⊢
    by_cases hb:(0 < i∧c.toNat=0)∨(i=9∧1 < c.toNat)
    ·rw [if_pos hb]
    ·rw [if_neg hb] at h ⊢
     by_cases hd:c.toNat < 128
     ·rw [if_pos hd] at h; simp at h
     ·rw [if_neg hd] at h ⊢
      exact ih _ _ h
  rw [e]
  unfold tkR
  rw [hz _ _ _ h0,if_neg h0]; rfl
end Go.Proofs.Ytgbcankkfmhcoaa.VL
end
section
namespace Go.Proofs.Ytgbcankkfmhcoaa.VL
open Go
set_option linter.unusedVariables false
set_option linter.unusedSectionVars false
set_option linter.unusedSimpArgs false
set_option maxRecDepth 100000
variable [Val]
theorem ext_mk (s:ByteArray) (a b:Nat):s.extract a b=mkB ((s.toList.drop a).take (b - a)):=by
 apply toList_inj
 rw [mkB_toList,toList_data,toList_data,ByteArray.data_extract,Array.toList_extract]
theorem take_text {s:ByteArray} (hs:s.size≤4611686018427387904) {A R:List UInt8} {a:Nat} (hA:s.toList=A++R) (ha:a=A.length) :
  (∃ t r:List UInt8,t.length≤200∧R=numU ((t.length:Nat):Int)++(t++r)∧F89 (s,((a:Nat):Int))=some (mkB t,((a+((numU ((t.length:Nat):Int)).length+t.length):Nat):Int),0)) ∨
  ((∀ t r:List UInt8,t.length≤200→R≠numU ((t.length:Nat):Int)++(t++r))∧∃ e:Int,e≠0∧F89 (s,((a:Nat):Int))=some (ByteArray.mk #[],0,e)):=by
 have hl:=toList_len s
 rw [F89_eq]
 rcases take_num hs hA ha with ⟨x,r,hx,h1,h2⟩ | ⟨h1,e,he,h2⟩
 ·obtain ⟨n,rfl⟩:∃ n:Nat,x=n:=⟨x.toNat,by have:=hx.1; omega⟩
  have hlen:s.size=A.length+((numU (n:Int)).length+r.length):=by rw [← hl,hA,h1,List.length_append,List.length_append]
  rw [h2]
  by_cases hn:n≤200
  ·have q1:¬ ((n:Nat):Int) > 200:=by omega
   have w1':IntKind.wrap .i64 ((n:Nat):Int)=((n:Nat):Int):=wi (by omega) (by omega)
   have w2:IntKind.wrap .i64 (((s.size:Nat):Int) - ((a+(numU (n:Int)).length:Nat):Int))=((r.length:Nat):Int):=by rw [wi (by omega) (by omega)]; omega
   by_cases hr:n≤r.length
   ·left
    have q2:¬ ((n:Nat):Int) > ((r.length:Nat):Int):=by omega
    have w3:IntKind.wrap .i64 (((a+(numU (n:Int)).length:Nat):Int)+((n:Nat):Int))=((a+((numU (n:Int)).length+n):Nat):Int):=by rw [wi (by omega) (by omega)]; omega
    have q3:(0:Int)≤((a+(numU (n:Int)).length:Nat):Int):=by omega
    have q4:((a+(numU (n:Int)).length:Nat):Int)≤((a+((numU (n:Int)).length+n):Nat):Int):=by omega
    have q5:((a+((numU (n:Int)).length+n):Nat):Int)≤((s.size:Nat):Int):=by omega
    have ht:(r.take n).length=n:=by rw [List.length_take]; omega
    refine ⟨r.take n,r.drop n,by omega,by rw [ht,List.take_append_drop,h1],?_⟩
    rw [ht]
    have e:s.extract (a+(numU (n:Int)).length) (a+((numU (n:Int)).length+n))=mkB (r.take n):=by
     rw [ext_mk,hA,h1,← List.append_assoc]
     have:a+(numU (n:Int)).length=(A++numU (n:Int)).length:=by rw [List.length_append,ha]
     rw [this,List.drop_left]
     congr 2
     rw [List.length_append]; omega
    simp -implicitDefEqProofs only [nz0,q1,w1',w2,q2,w3,q3,q4,q5,e,eq_self,xs]
   ·right
    have q2:((n:Nat):Int) > ((r.length:Nat):Int):=by omega
    refine ⟨fun t r' ht hR=>?_,3,by omega,?_⟩
    ·rw [h1] at hR
     obtain ⟨e1,e2⟩:=numU_pre (by omega) (by omega) hR
     have e3:n=t.length:=by omega
     rw [e2,List.length_append] at hr
     omega
    ·simp -implicitDefEqProofs only [nz0,q1,w1',w2,q2,eq_self,xs]
  ·right
   have q1:((n:Nat):Int) > 200:=by omega
   refine ⟨fun t r' ht hR=>?_,4,by omega,?_⟩
   ·rw [h1] at hR
    obtain ⟨e1,e2⟩:=numU_pre (by omega) (by omega) hR
    omega
   ·simp -implicitDefEqProofs only [nz0,q1,eq_self,xs]
 ·right
  refine ⟨fun t r' ht hR=>h1 _ _ ⟨by omega,by omega⟩ hR,e,he,?_⟩
  rw [h2]
  have:(e != 0)=true:=by simpa using he
  simp -implicitDefEqProofs only [this,eq_self,xs]
def openE (l:List UInt8):List UInt8×Int :=
 if l.length < 4 then ([],3) else if 4100 < l.length then ([],4) else if l.drop (l.length - 4)=four (crc (l.take (l.length - 4))) then (l.take (l.length - 4),0) else ([],10)
theorem F38_ok {s:ByteArray} (hs:s.size≤4611686018427387904):F38 s=some (mkB (openE s.toList).1,(openE s.toList).2):=by
 rw [F38_eq]
 have hl:=toList_len s
 unfold openE
 rw [hl]
 by_cases h1:s.size < 4
 ·have q:IntKind.wrap .i64 (((s.size:Nat):Int) - 4) < 0:=by rw [wi (by omega) (by omega)]; omega
  rw [if_pos h1]
  simp -implicitDefEqProofs only [q,eq_self,xs]
  rfl
 ·have w:IntKind.wrap .i64 (((s.size:Nat):Int) - 4)=((s.size - 4:Nat):Int):=by rw [wi (by omega) (by omega)]; omega
  rw [if_neg h1,w]
  have q1:¬ ((s.size - 4:Nat):Int) < 0:=by omega
  by_cases h2:4100 < s.size
  ·have q2:((s.size - 4:Nat):Int) > 4096:=by omega
   rw [if_pos h2]
   simp -implicitDefEqProofs only [q1,q2,eq_self,xs]
   rfl
  ·have q2:¬ ((s.size - 4:Nat):Int) > 4096:=by omega
   have q3:(0:Int)≤((s.size - 4:Nat):Int):=by omega
   have q4:((s.size - 4:Nat):Int)≤((s.size:Nat):Int):=by omega
   have e1:s.extract 0 (s.size - 4)=mkB (s.toList.take (s.size - 4)):=by rw [ext_mk]; rfl
   have e2:s.extract (s.size - 4) s.size=mkB (s.toList.drop (s.size - 4)):=by
    rw [ext_mk,List.take_of_length_le (by rw [List.length_drop]; omega)]
   have f:=F82_ok (s:=mkB (s.toList.take (s.size - 4))) (by rw [mkB_size,List.length_take]; omega)
   rw [mkB_toList] at f
   have f2:=F81_ok (crc (s.toList.take (s.size - 4)))
   rw [if_neg h2]
   by_cases h3:s.toList.drop (s.size - 4)=four (crc (s.toList.take (s.size - 4)))
   ·rw [if_pos h3]
    have h4:(s.toList.drop (s.size - 4)==four (crc (s.toList.take (s.size - 4))))=true:=by rw [h3]; simp
    simp -implicitDefEqProofs only [q1,q2,q3,q4,e1,e2,f,f2,mkB_toList,h4,eq_self,xs]
   ·rw [if_neg h3]
    have h4:(s.toList.drop (s.size - 4)==four (crc (s.toList.take (s.size - 4))))=false:=by simpa using h3
    simp -implicitDefEqProofs only [q1,q2,q3,q4,e1,e2,f,f2,mkB_toList,h4,eq_self,xs]
    rfl
end Go.Proofs.Ytgbcankkfmhcoaa.VL
end
section
namespace Go.Proofs.Ytgbcankkfmhcoaa.VL
open Go
set_option linter.unusedVariables false
set_option linter.unusedSectionVars false
set_option maxRecDepth 100000
variable [Val]
abbrev RS:Type:=ByteArray×(Int×Bool)
abbrev REC:Type:=(Int×(Int×(Int×(Int×(Int×(Int×(Int×(Int×(Int×(Int×(ByteArray×(Int×Bool))))))))))))
noncomputable def rNum (r:RS):Option (Int×RS):=Option.bind (F85 (r.1,r.2.1)) (fun x=>cond (x.2.2 != 0) (some (0,r.1,r.2.1,false)) (some (x.1,r.1,x.2.1,r.2.2)))
noncomputable def rSmall (r:RS):Option (Int×RS):=Option.bind (rNum r) (fun x=>cond (decide (x.1 > 1048576)) (some (0,x.2.1,x.2.2.1,false)) (some (IntKind.wrap .i64 x.1,x.2.1,x.2.2.1,x.2.2.2)))
noncomputable def rMany (most:Int) (r:RS):Option (Int×RS):=Option.bind (rSmall r) (fun x=>cond (decide (x.1 > most)) (some (0,x.2.1,x.2.2.1,false)) (some (x.1,x.2.1,x.2.2.1,x.2.2.2)))
noncomputable def rKnow (r:RS):Option (RS×(Int×Int)):=Option.bind (rNum r) (fun x=>Option.bind (rSmall (x.2.1,x.2.2.1,x.2.2.2)) (fun y=>some ((y.2.1,y.2.2.1,y.2.2.2),x.1,y.1)))
noncomputable def nBod (v11:(Int×(RS×(REC×((List (Int×(Int×Int)))×(List (Int×Int))))))) (v32:Int×RS) (v33:(Int×((ByteArray×(Int×Bool))×((Int×(Int×(Int×(Int×(Int×(Int×(Int×(Int×(Int×(Int×(ByteArray×(Int×Bool))))))))))))×(List (Int×(Int×Int))))))):Option ((Int×((ByteArray×(Int×Bool))×((Int×(Int×(Int×(Int×(Int×(Int×(Int×(Int×(Int×(Int×(ByteArray×(Int×Bool))))))))))))×(List (Int×(Int×Int)))))) ⊕ ((Int×(RS×(REC×((List (Int×(Int×Int)))×(List (Int×Int)))))) ⊕ (RS×(REC×((List (Int×(Int×Int)))×(List (Int×Int))))))) :=
 (cond (decide (v33.1 < v32.1)) (Option.bind (rSmall (v33.2.1.1,v33.2.1.2.1,v33.2.1.2.2)) (fun (v36:(Int×(ByteArray×(Int×Bool))))=>(Option.bind (rKnow (v36.2.1,v36.2.2.1,v36.2.2.2)) (fun (v42:((ByteArray×(Int×Bool))×(Int×Int)))=>(cond ((decide ((0+v33.2.2.2.length)≤v33.2.2.2.length))&&((decide (((((v33.2.2.2.length+1):Nat):Int) * (24:Int))≤(70368744177664:Int)))&&(decide ((((v33.2.2.2.length+1):Nat):Int)≤(70368744177664:Int))))) (cond (decide (((0+v33.2.2.2.length)+1)≤v33.2.2.2.length)) (cond (decide ((v33.2.2.2.length+1)=(Append.append (Append.append (List.take (0+v33.2.2.2.length) v33.2.2.2) ((v36.1,v42.2.1,v42.2.2)::[])) (List.drop ((0+v33.2.2.2.length)+1) v33.2.2.2)).length)) (cond (decide (v11.2.2.2.2.length=v11.2.2.2.2.length)) (some (.inl ((IntKind.wrap IntKind.i64 (v33.1+(1:Int))),(v42.1.1,v42.1.2.1,v42.1.2.2),(v33.2.2.1.1,v33.2.2.1.2.1,v33.2.2.1.2.2.1,v33.2.2.1.2.2.2.1,v33.2.2.1.2.2.2.2.1,v33.2.2.1.2.2.2.2.2.1,v33.2.2.1.2.2.2.2.2.2.1,v33.2.2.1.2.2.2.2.2.2.2.1,v33.2.2.1.2.2.2.2.2.2.2.2.1,v33.2.2.1.2.2.2.2.2.2.2.2.2.1,v33.2.2.1.2.2.2.2.2.2.2.2.2.2.1,v33.2.2.1.2.2.2.2.2.2.2.2.2.2.2.1,v33.2.2.1.2.2.2.2.2.2.2.2.2.2.2.2),(Append.append (Append.append (List.take (0+v33.2.2.2.length) v33.2.2.2) ((v36.1,v42.2.1,v42.2.2)::[])) (List.drop ((0+v33.2.2.2.length)+1) v33.2.2.2))))) none) none) (cond (decide ((v33.2.2.2.length+1)=(Append.append (List.take v33.2.2.2.length v33.2.2.2) ((v36.1,v42.2.1,v42.2.2)::[])).length)) (cond (decide (v11.2.2.2.2.length=v11.2.2.2.2.length)) (some (.inl ((IntKind.wrap IntKind.i64 (v33.1+(1:Int))),(v42.1.1,v42.1.2.1,v42.1.2.2),(v33.2.2.1.1,v33.2.2.1.2.1,v33.2.2.1.2.2.1,v33.2.2.1.2.2.2.1,v33.2.2.1.2.2.2.2.1,v33.2.2.1.2.2.2.2.2.1,v33.2.2.1.2.2.2.2.2.2.1,v33.2.2.1.2.2.2.2.2.2.2.1,v33.2.2.1.2.2.2.2.2.2.2.2.1,v33.2.2.1.2.2.2.2.2.2.2.2.2.1,v33.2.2.1.2.2.2.2.2.2.2.2.2.2.1,v33.2.2.1.2.2.2.2.2.2.2.2.2.2.2.1,v33.2.2.1.2.2.2.2.2.2.2.2.2.2.2.2),(Append.append (List.take v33.2.2.2.length v33.2.2.2) ((v36.1,v42.2.1,v42.2.2)::[]))))) none) none)) none))))) (Option.map (Sum.inr) (cond (decide (v33.2.2.2.length=v33.2.2.2.length)) (cond (decide (v11.2.2.2.2.length=v11.2.2.2.2.length)) (some (.inl ((IntKind.wrap IntKind.i64 (v11.1+(1:Int))),(v33.2.1.1,v33.2.1.2.1,v33.2.1.2.2),(v33.2.2.1.1,v33.2.2.1.2.1,v33.2.2.1.2.2.1,v33.2.2.1.2.2.2.1,v33.2.2.1.2.2.2.2.1,v33.2.2.1.2.2.2.2.2.1,v33.2.2.1.2.2.2.2.2.2.1,v33.2.2.1.2.2.2.2.2.2.2.1,v33.2.2.1.2.2.2.2.2.2.2.2.1,v33.2.2.1.2.2.2.2.2.2.2.2.2.1,v33.2.2.1.2.2.2.2.2.2.2.2.2.2.1,v33.2.2.1.2.2.2.2.2.2.2.2.2.2.2.1,v33.2.2.1.2.2.2.2.2.2.2.2.2.2.2.2),v33.2.2.2,v11.2.2.2.2))) none) none)))
noncomputable def tBod (v11:(Int×(RS×(REC×((List (Int×(Int×Int)))×(List (Int×Int))))))) (v46:Int×RS) (v47:(Int×((ByteArray×(Int×Bool))×((Int×(Int×(Int×(Int×(Int×(Int×(Int×(Int×(Int×(Int×(ByteArray×(Int×Bool))))))))))))×(List (Int×Int)))))):Option ((Int×((ByteArray×(Int×Bool))×((Int×(Int×(Int×(Int×(Int×(Int×(Int×(Int×(Int×(Int×(ByteArray×(Int×Bool))))))))))))×(List (Int×Int))))) ⊕ ((Int×(RS×(REC×((List (Int×(Int×Int)))×(List (Int×Int)))))) ⊕ (RS×(REC×((List (Int×(Int×Int)))×(List (Int×Int))))))) :=
 (cond (decide (v47.1 < v46.1)) (Option.bind (rKnow (v47.2.1.1,v47.2.1.2.1,v47.2.1.2.2)) (fun (v53:((ByteArray×(Int×Bool))×(Int×Int)))=>(cond ((decide ((0+v47.2.2.2.length)≤v47.2.2.2.length))&&((decide (((((v47.2.2.2.length+1):Nat):Int) * (16:Int))≤(70368744177664:Int)))&&(decide ((((v47.2.2.2.length+1):Nat):Int)≤(70368744177664:Int))))) (cond (decide (((0+v47.2.2.2.length)+1)≤v47.2.2.2.length)) (cond (decide (v11.2.2.2.1.length=v11.2.2.2.1.length)) (cond (decide ((v47.2.2.2.length+1)=(Append.append (Append.append (List.take (0+v47.2.2.2.length) v47.2.2.2) ((v53.2.1,v53.2.2)::[])) (List.drop ((0+v47.2.2.2.length)+1) v47.2.2.2)).length)) (some (.inl ((IntKind.wrap IntKind.i64 (v47.1+(1:Int))),(v53.1.1,v53.1.2.1,v53.1.2.2),(v47.2.2.1.1,v47.2.2.1.2.1,v47.2.2.1.2.2.1,v47.2.2.1.2.2.2.1,v47.2.2.1.2.2.2.2.1,v47.2.2.1.2.2.2.2.2.1,v47.2.2.1.2.2.2.2.2.2.1,v47.2.2.1.2.2.2.2.2.2.2.1,v47.2.2.1.2.2.2.2.2.2.2.2.1,v47.2.2.1.2.2.2.2.2.2.2.2.2.1,v47.2.2.1.2.2.2.2.2.2.2.2.2.2.1,v47.2.2.1.2.2.2.2.2.2.2.2.2.2.2.1,v47.2.2.1.2.2.2.2.2.2.2.2.2.2.2.2),(Append.append (Append.append (List.take (0+v47.2.2.2.length) v47.2.2.2) ((v53.2.1,v53.2.2)::[])) (List.drop ((0+v47.2.2.2.length)+1) v47.2.2.2))))) none) none) (cond (decide (v11.2.2.2.1.length=v11.2.2.2.1.length)) (cond (decide ((v47.2.2.2.length+1)=(Append.append (List.take v47.2.2.2.length v47.2.2.2) ((v53.2.1,v53.2.2)::[])).length)) (some (.inl ((IntKind.wrap IntKind.i64 (v47.1+(1:Int))),(v53.1.1,v53.1.2.1,v53.1.2.2),(v47.2.2.1.1,v47.2.2.1.2.1,v47.2.2.1.2.2.1,v47.2.2.1.2.2.2.1,v47.2.2.1.2.2.2.2.1,v47.2.2.1.2.2.2.2.2.1,v47.2.2.1.2.2.2.2.2.2.1,v47.2.2.1.2.2.2.2.2.2.2.1,v47.2.2.1.2.2.2.2.2.2.2.2.1,v47.2.2.1.2.2.2.2.2.2.2.2.2.1,v47.2.2.1.2.2.2.2.2.2.2.2.2.2.1,v47.2.2.1.2.2.2.2.2.2.2.2.2.2.2.1,v47.2.2.1.2.2.2.2.2.2.2.2.2.2.2.2),(Append.append (List.take v47.2.2.2.length v47.2.2.2) ((v53.2.1,v53.2.2)::[]))))) none) none)) none))) (Option.map (Sum.inr) (cond (decide (v11.2.2.2.1.length=v11.2.2.2.1.length)) (cond (decide (v47.2.2.2.length=v47.2.2.2.length)) (some (.inl ((IntKind.wrap IntKind.i64 (v11.1+(1:Int))),(v47.2.1.1,v47.2.1.2.1,v47.2.1.2.2),(v47.2.2.1.1,v47.2.2.1.2.1,v47.2.2.1.2.2.1,v47.2.2.1.2.2.2.1,v47.2.2.1.2.2.2.2.1,v47.2.2.1.2.2.2.2.2.1,v47.2.2.1.2.2.2.2.2.2.1,v47.2.2.1.2.2.2.2.2.2.2.1,v47.2.2.1.2.2.2.2.2.2.2.2.1,v47.2.2.1.2.2.2.2.2.2.2.2.2.1,v47.2.2.1.2.2.2.2.2.2.2.2.2.2.1,v47.2.2.1.2.2.2.2.2.2.2.2.2.2.2.1,v47.2.2.1.2.2.2.2.2.2.2.2.2.2.2.2),v11.2.2.2.1,v47.2.2.2))) none) none)))
noncomputable def rBod (v10:List ByteArray) (v11:(Int×((ByteArray×(Int×Bool))×((Int×(Int×(Int×(Int×(Int×(Int×(Int×(Int×(Int×(Int×(ByteArray×(Int×Bool))))))))))))×((List (Int×(Int×Int)))×(List (Int×Int))))))):Option ((Int×((ByteArray×(Int×Bool))×((Int×(Int×(Int×(Int×(Int×(Int×(Int×(Int×(Int×(Int×(ByteArray×(Int×Bool))))))))))))×((List (Int×(Int×Int)))×(List (Int×Int)))))) ⊕ (RS×(REC×((List (Int×(Int×Int)))×(List (Int×Int)))))) :=
 (cond (decide (v11.1 < ((v10.length:Nat):Int))) (cond (decide ((0:Int)≤v11.1)) (Option.bind v10[(Int.toNat v11.1)]? (fun (v12:ByteArray)=>(cond ((ByteArray.toList v12)==(ByteArray.toList (ByteArray.mk #[115,101,113]))) (Option.bind (rNum (v11.2.1.1,v11.2.1.2.1,v11.2.1.2.2)) (fun (v14:(Int×(ByteArray×(Int×Bool))))=>(cond (decide (v11.2.2.2.1.length=v11.2.2.2.1.length)) (cond (decide (v11.2.2.2.2.length=v11.2.2.2.2.length)) (some (.inl ((IntKind.wrap IntKind.i64 (v11.1+(1:Int))),(v14.2.1,v14.2.2.1,v14.2.2.2),(v11.2.2.1.1,v11.2.2.1.2.1,v11.2.2.1.2.2.1,v14.1,v11.2.2.1.2.2.2.2.1,v11.2.2.1.2.2.2.2.2.1,v11.2.2.1.2.2.2.2.2.2.1,v11.2.2.1.2.2.2.2.2.2.2.1,v11.2.2.1.2.2.2.2.2.2.2.2.1,v11.2.2.1.2.2.2.2.2.2.2.2.2.1,v11.2.2.1.2.2.2.2.2.2.2.2.2.2.1,v11.2.2.1.2.2.2.2.2.2.2.2.2.2.2.1,v11.2.2.1.2.2.2.2.2.2.2.2.2.2.2.2),v11.2.2.2.1,v11.2.2.2.2))) none) none))) (cond ((ByteArray.toList v12)==(ByteArray.toList (ByteArray.mk #[101,112,111,99,104]))) (Option.bind (rNum (v11.2.1.1,v11.2.1.2.1,v11.2.1.2.2)) (fun (v16:(Int×(ByteArray×(Int×Bool))))=>(cond (decide (v11.2.2.2.1.length=v11.2.2.2.1.length)) (cond (decide (v11.2.2.2.2.length=v11.2.2.2.2.length)) (some (.inl ((IntKind.wrap IntKind.i64 (v11.1+(1:Int))),(v16.2.1,v16.2.2.1,v16.2.2.2),(v11.2.2.1.1,v11.2.2.1.2.1,v11.2.2.1.2.2.1,v11.2.2.1.2.2.2.1,v11.2.2.1.2.2.2.2.1,v11.2.2.1.2.2.2.2.2.1,v11.2.2.1.2.2.2.2.2.2.1,v16.1,v11.2.2.1.2.2.2.2.2.2.2.2.1,v11.2.2.1.2.2.2.2.2.2.2.2.2.1,v11.2.2.1.2.2.2.2.2.2.2.2.2.2.1,v11.2.2.1.2.2.2.2.2.2.2.2.2.2.2.1,v11.2.2.1.2.2.2.2.2.2.2.2.2.2.2.2),v11.2.2.2.1,v11.2.2.2.2))) none) none))) (cond ((ByteArray.toList v12)==(ByteArray.toList (ByteArray.mk #[98,111,111,116]))) (Option.bind (rNum (v11.2.1.1,v11.2.1.2.1,v11.2.1.2.2)) (fun (v18:(Int×(ByteArray×(Int×Bool))))=>(cond (decide (v11.2.2.2.1.length=v11.2.2.2.1.length)) (cond (decide (v11.2.2.2.2.length=v11.2.2.2.2.length)) (some (.inl ((IntKind.wrap IntKind.i64 (v11.1+(1:Int))),(v18.2.1,v18.2.2.1,v18.2.2.2),(v11.2.2.1.1,v11.2.2.1.2.1,v11.2.2.1.2.2.1,v11.2.2.1.2.2.2.1,v11.2.2.1.2.2.2.2.1,v11.2.2.1.2.2.2.2.2.1,v11.2.2.1.2.2.2.2.2.2.1,v11.2.2.1.2.2.2.2.2.2.2.1,v18.1,v11.2.2.1.2.2.2.2.2.2.2.2.2.1,v11.2.2.1.2.2.2.2.2.2.2.2.2.2.1,v11.2.2.1.2.2.2.2.2.2.2.2.2.2.2.1,v11.2.2.1.2.2.2.2.2.2.2.2.2.2.2.2),v11.2.2.2.1,v11.2.2.2.2))) none) none))) (cond ((ByteArray.toList v12)==(ByteArray.toList (ByteArray.mk #[116,111,107,101,110]))) (Option.bind (rNum (v11.2.1.1,v11.2.1.2.1,v11.2.1.2.2)) (fun (v20:(Int×(ByteArray×(Int×Bool))))=>(cond (decide (v11.2.2.2.1.length=v11.2.2.2.1.length)) (cond (decide (v11.2.2.2.2.length=v11.2.2.2.2.length)) (some (.inl ((IntKind.wrap IntKind.i64 (v11.1+(1:Int))),(v20.2.1,v20.2.2.1,v20.2.2.2),(v11.2.2.1.1,v11.2.2.1.2.1,v11.2.2.1.2.2.1,v11.2.2.1.2.2.2.1,v11.2.2.1.2.2.2.2.1,v11.2.2.1.2.2.2.2.2.1,v11.2.2.1.2.2.2.2.2.2.1,v11.2.2.1.2.2.2.2.2.2.2.1,v11.2.2.1.2.2.2.2.2.2.2.2.1,v11.2.2.1.2.2.2.2.2.2.2.2.2.1,v11.2.2.1.2.2.2.2.2.2.2.2.2.2.1,v20.1,v11.2.2.1.2.2.2.2.2.2.2.2.2.2.2.2),v11.2.2.2.1,v11.2.2.2.2))) none) none))) (cond ((ByteArray.toList v12)==(ByteArray.toList (ByteArray.mk #[119,104,111]))) (Option.bind (rSmall (v11.2.1.1,v11.2.1.2.1,v11.2.1.2.2)) (fun (v23:(Int×(ByteArray×(Int×Bool))))=>(cond (decide (v11.2.2.2.1.length=v11.2.2.2.1.length)) (cond (decide (v11.2.2.2.2.length=v11.2.2.2.2.length)) (some (.inl ((IntKind.wrap IntKind.i64 (v11.1+(1:Int))),(v23.2.1,v23.2.2.1,v23.2.2.2),(v11.2.2.1.1,v11.2.2.1.2.1,v11.2.2.1.2.2.1,v11.2.2.1.2.2.2.1,v23.1,v11.2.2.1.2.2.2.2.2.1,v11.2.2.1.2.2.2.2.2.2.1,v11.2.2.1.2.2.2.2.2.2.2.1,v11.2.2.1.2.2.2.2.2.2.2.2.1,v11.2.2.1.2.2.2.2.2.2.2.2.2.1,v11.2.2.1.2.2.2.2.2.2.2.2.2.2.1,v11.2.2.1.2.2.2.2.2.2.2.2.2.2.2.1,v11.2.2.1.2.2.2.2.2.2.2.2.2.2.2.2),v11.2.2.2.1,v11.2.2.2.2))) none) none))) (cond ((ByteArray.toList v12)==(ByteArray.toList (ByteArray.mk #[107]))) (Option.bind (rNum (v11.2.1.1,v11.2.1.2.1,v11.2.1.2.2)) (fun (v25:(Int×(ByteArray×(Int×Bool))))=>(Option.bind (rSmall (v25.2.1,v25.2.2.1,v25.2.2.2)) (fun (v28:(Int×(ByteArray×(Int×Bool))))=>(cond (decide (v11.2.2.2.1.length=v11.2.2.2.1.length)) (cond (decide (v11.2.2.2.2.length=v11.2.2.2.2.length)) (some (.inl ((IntKind.wrap IntKind.i64 (v11.1+(1:Int))),(v28.2.1,v28.2.2.1,v28.2.2.2),(v11.2.2.1.1,v11.2.2.1.2.1,v11.2.2.1.2.2.1,v11.2.2.1.2.2.2.1,v11.2.2.1.2.2.2.2.1,v25.1,v28.1,v11.2.2.1.2.2.2.2.2.2.2.1,v11.2.2.1.2.2.2.2.2.2.2.2.1,v11.2.2.1.2.2.2.2.2.2.2.2.2.1,v11.2.2.1.2.2.2.2.2.2.2.2.2.2.1,v11.2.2.1.2.2.2.2.2.2.2.2.2.2.2.1,v11.2.2.1.2.2.2.2.2.2.2.2.2.2.2.2),v11.2.2.2.1,v11.2.2.2.2))) none) none))))) (cond ((ByteArray.toList v12)==(ByteArray.toList (ByteArray.mk #[110,101,119,115]))) (Option.bind (rMany 8 (v11.2.1.1,v11.2.1.2.1,v11.2.1.2.2)) (fun (v32:(Int×(ByteArray×(Int×Bool))))=>(cond (decide (v11.2.2.2.1.length=v11.2.2.2.1.length)) (cond (decide (v11.2.2.2.2.length=v11.2.2.2.2.length)) (loopX (nBod v11 v32) ((0:Int),(v32.2.1,v32.2.2.1,v32.2.2.2),(v11.2.2.1.1,v11.2.2.1.2.1,v11.2.2.1.2.2.1,v11.2.2.1.2.2.2.1,v11.2.2.1.2.2.2.2.1,v11.2.2.1.2.2.2.2.2.1,v11.2.2.1.2.2.2.2.2.2.1,v11.2.2.1.2.2.2.2.2.2.2.1,v11.2.2.1.2.2.2.2.2.2.2.2.1,v11.2.2.1.2.2.2.2.2.2.2.2.2.1,v11.2.2.1.2.2.2.2.2.2.2.2.2.2.1,v11.2.2.1.2.2.2.2.2.2.2.2.2.2.2.1,v11.2.2.1.2.2.2.2.2.2.2.2.2.2.2.2),v11.2.2.2.1)) none) none))) (cond ((ByteArray.toList v12)==(ByteArray.toList (ByteArray.mk #[116,97,98,108,101]))) (Option.bind (rMany 64 (v11.2.1.1,v11.2.1.2.1,v11.2.1.2.2)) (fun (v46:(Int×(ByteArray×(Int×Bool))))=>(cond (decide (v11.2.2.2.1.length=v11.2.2.2.1.length)) (cond (decide (v11.2.2.2.2.length=v11.2.2.2.2.length)) (loopX (tBod v11 v46) ((0:Int),(v46.2.1,v46.2.2.1,v46.2.2.2),(v11.2.2.1.1,v11.2.2.1.2.1,v11.2.2.1.2.2.1,v11.2.2.1.2.2.2.1,v11.2.2.1.2.2.2.2.1,v11.2.2.1.2.2.2.2.2.1,v11.2.2.1.2.2.2.2.2.2.1,v11.2.2.1.2.2.2.2.2.2.2.1,v11.2.2.1.2.2.2.2.2.2.2.2.1,v11.2.2.1.2.2.2.2.2.2.2.2.2.1,v11.2.2.1.2.2.2.2.2.2.2.2.2.2.1,v11.2.2.1.2.2.2.2.2.2.2.2.2.2.2.1,v11.2.2.1.2.2.2.2.2.2.2.2.2.2.2.2),v11.2.2.2.2)) none) none))) (cond ((ByteArray.toList v12)==(ByteArray.toList (ByteArray.mk #[97,115,107,101,100]))) (Option.bind (rNum (v11.2.1.1,v11.2.1.2.1,v11.2.1.2.2)) (fun (v55:(Int×(ByteArray×(Int×Bool))))=>(cond (decide (v11.2.2.2.1.length=v11.2.2.2.1.length)) (cond (decide (v11.2.2.2.2.length=v11.2.2.2.2.length)) (some (.inl ((IntKind.wrap IntKind.i64 (v11.1+(1:Int))),(v55.2.1,v55.2.2.1,v55.2.2.2),(v11.2.2.1.1,v11.2.2.1.2.1,v11.2.2.1.2.2.1,v11.2.2.1.2.2.2.1,v11.2.2.1.2.2.2.2.1,v11.2.2.1.2.2.2.2.2.1,v11.2.2.1.2.2.2.2.2.2.1,v11.2.2.1.2.2.2.2.2.2.2.1,v11.2.2.1.2.2.2.2.2.2.2.2.1,(IntKind.wrap IntKind.i64 v55.1),v11.2.2.1.2.2.2.2.2.2.2.2.2.2.1,v11.2.2.1.2.2.2.2.2.2.2.2.2.2.2.1,v11.2.2.1.2.2.2.2.2.2.2.2.2.2.2.2),v11.2.2.2.1,v11.2.2.2.2))) none) none))) (cond ((ByteArray.toList v12)==(ByteArray.toList (ByteArray.mk #[116,97,115,107]))) (Option.bind (Option.bind (F89 (v11.2.1.1,v11.2.1.2.1)) (fun (v56:(ByteArray×(Int×Int)))=>(cond (v56.2.2 != (0:Int)) (cond (decide (v11.2.2.2.1.length=v11.2.2.2.1.length)) (cond (decide (v11.2.2.2.2.length=v11.2.2.2.2.length)) (some ((v11.2.1.1,v11.2.1.2.1,false),v11.2.2.1.1,v11.2.2.1.2.1,v11.2.2.1.2.2.1,v11.2.2.1.2.2.2.1,v11.2.2.1.2.2.2.2.1,v11.2.2.1.2.2.2.2.2.1,v11.2.2.1.2.2.2.2.2.2.1,v11.2.2.1.2.2.2.2.2.2.2.1,v11.2.2.1.2.2.2.2.2.2.2.2.1,v11.2.2.1.2.2.2.2.2.2.2.2.2.1,v11.2.2.1.2.2.2.2.2.2.2.2.2.2.1,v11.2.2.1.2.2.2.2.2.2.2.2.2.2.2.1,v11.2.2.1.2.2.2.2.2.2.2.2.2.2.2.2)) none) none) (cond (decide (v11.2.2.2.1.length=v11.2.2.2.1.length)) (cond (decide (v11.2.2.2.2.length=v11.2.2.2.2.length)) (some ((v11.2.1.1,v56.2.1,v11.2.1.2.2),v11.2.2.1.1,v11.2.2.1.2.1,v11.2.2.1.2.2.1,v11.2.2.1.2.2.2.1,v11.2.2.1.2.2.2.2.1,v11.2.2.1.2.2.2.2.2.1,v11.2.2.1.2.2.2.2.2.2.1,v11.2.2.1.2.2.2.2.2.2.2.1,v11.2.2.1.2.2.2.2.2.2.2.2.1,v11.2.2.1.2.2.2.2.2.2.2.2.2.1,v56.1,v11.2.2.1.2.2.2.2.2.2.2.2.2.2.2.1,v11.2.2.1.2.2.2.2.2.2.2.2.2.2.2.2)) none) none)))) (fun (v57:((ByteArray×(Int×Bool))×(Int×(Int×(Int×(Int×(Int×(Int×(Int×(Int×(Int×(Int×(ByteArray×(Int×Bool))))))))))))))=>(cond (decide (v11.2.2.2.1.length=v11.2.2.2.1.length)) (cond (decide (v11.2.2.2.2.length=v11.2.2.2.2.length)) (some (.inl ((IntKind.wrap IntKind.i64 (v11.1+(1:Int))),(v57.1.1,v57.1.2.1,v57.1.2.2),(v57.2.1,v57.2.2.1,v57.2.2.2.1,v57.2.2.2.2.1,v57.2.2.2.2.2.1,v57.2.2.2.2.2.2.1,v57.2.2.2.2.2.2.2.1,v57.2.2.2.2.2.2.2.2.1,v57.2.2.2.2.2.2.2.2.2.1,v57.2.2.2.2.2.2.2.2.2.2.1,v57.2.2.2.2.2.2.2.2.2.2.2.1,v57.2.2.2.2.2.2.2.2.2.2.2.2.1,v57.2.2.2.2.2.2.2.2.2.2.2.2.2),v11.2.2.2.1,v11.2.2.2.2))) none) none))) (cond ((ByteArray.toList v12)==(ByteArray.toList (ByteArray.mk #[103,111,111,100]))) (Option.bind (rMany 1 (v11.2.1.1,v11.2.1.2.1,v11.2.1.2.2)) (fun (v61:(Int×(ByteArray×(Int×Bool))))=>(cond (decide (v11.2.2.2.1.length=v11.2.2.2.1.length)) (cond (decide (v11.2.2.2.2.length=v11.2.2.2.2.length)) (some (.inl ((IntKind.wrap IntKind.i64 (v11.1+(1:Int))),(v61.2.1,v61.2.2.1,v61.2.2.2),(v11.2.2.1.1,v11.2.2.1.2.1,v11.2.2.1.2.2.1,v11.2.2.1.2.2.2.1,v11.2.2.1.2.2.2.2.1,v11.2.2.1.2.2.2.2.2.1,v11.2.2.1.2.2.2.2.2.2.1,v11.2.2.1.2.2.2.2.2.2.2.1,v11.2.2.1.2.2.2.2.2.2.2.2.1,v11.2.2.1.2.2.2.2.2.2.2.2.2.1,v11.2.2.1.2.2.2.2.2.2.2.2.2.2.1,v11.2.2.1.2.2.2.2.2.2.2.2.2.2.2.1,(v61.1==(1:Int))),v11.2.2.2.1,v11.2.2.2.2))) none) none))) none))))))))))))) none) (Option.map (Sum.inr) (cond (decide (v11.2.2.2.1.length=v11.2.2.2.1.length)) (cond (decide (v11.2.2.2.2.length=v11.2.2.2.2.length)) (some ((v11.2.1.1,v11.2.1.2.1,v11.2.1.2.2),(v11.2.2.1.1,v11.2.2.1.2.1,v11.2.2.1.2.2.1,v11.2.2.1.2.2.2.1,v11.2.2.1.2.2.2.2.1,v11.2.2.1.2.2.2.2.2.1,v11.2.2.1.2.2.2.2.2.2.1,v11.2.2.1.2.2.2.2.2.2.2.1,v11.2.2.1.2.2.2.2.2.2.2.2.1,v11.2.2.1.2.2.2.2.2.2.2.2.2.1,v11.2.2.1.2.2.2.2.2.2.2.2.2.2.1,v11.2.2.1.2.2.2.2.2.2.2.2.2.2.2.1,v11.2.2.1.2.2.2.2.2.2.2.2.2.2.2.2),v11.2.2.2.1,v11.2.2.2.2)) none) none)))
theorem F18_r (v:ByteArray):F18 v=(Option.bind (F38 v) (fun (v0:(ByteArray×Int))=>(cond (v0.2 != (0:Int)) (some (((0:Int),(0:Int),(0:Int),(0:Int),(0:Int),(0:Int),(0:Int),[],[],(0:Int),(0:Int),(0:Int),(ByteArray.mk #[]),(0:Int),false),v0.2)) (Option.bind (rSmall (v0.1,(0:Int),true)) (fun (v3:(Int×(ByteArray×(Int×Bool))))=>(Option.bind (rSmall (v3.2.1,v3.2.2.1,v3.2.2.2)) (fun (v6:(Int×(ByteArray×(Int×Bool))))=>(Option.bind (rSmall (v6.2.1,v6.2.2.1,v6.2.2.2)) (fun (v9:(Int×(ByteArray×(Int×Bool))))=>(Option.bind (Option.bind (F24 v3.1) (fun (v10:(List ByteArray))=>(loopX (rBod v10) ((0:Int),(v9.2.1,v9.2.2.1,v9.2.2.2),(v3.1,v6.1,v9.1,(0:Int),(0:Int),(0:Int),(0:Int),(0:Int),(0:Int),(0:Int),(ByteArray.mk #[]),(0:Int),false),[],[])))) (fun (v62:((ByteArray×(Int×Bool))×((Int×(Int×(Int×(Int×(Int×(Int×(Int×(Int×(Int×(Int×(ByteArray×(Int×Bool))))))))))))×((List (Int×(Int×Int)))×(List (Int×Int))))))=>(Option.bind (cond (!v62.1.2.2) (some true) (cond (v62.1.2.1 != (((ByteArray.size v0.1):Nat):Int)) (some true) (cond (decide ((0+v62.2.2.1.length)≤v62.2.2.1.length)) (cond (decide ((0+v62.2.2.2.length)≤v62.2.2.2.length)) (Option.bind (F11 (v62.2.1.1,v62.2.1.2.1,v62.2.1.2.2.1,v62.2.1.2.2.2.1,v62.2.1.2.2.2.2.1,v62.2.1.2.2.2.2.2.1,v62.2.1.2.2.2.2.2.2.1,(List.take v62.2.2.1.length v62.2.2.1),(List.take v62.2.2.2.length v62.2.2.2),v62.2.1.2.2.2.2.2.2.2.1,v62.2.1.2.2.2.2.2.2.2.2.1,v62.2.1.2.2.2.2.2.2.2.2.2.1,v62.2.1.2.2.2.2.2.2.2.2.2.2.1,v62.2.1.2.2.2.2.2.2.2.2.2.2.2.1,v62.2.1.2.2.2.2.2.2.2.2.2.2.2.2)) (fun (v63:Int)=>(some (v63 != (0:Int))))) none) none))) (fun (v64:Bool)=>(cond v64 (some (((0:Int),(0:Int),(0:Int),(0:Int),(0:Int),(0:Int),(0:Int),[],[],(0:Int),(0:Int),(0:Int),(ByteArray.mk #[]),(0:Int),false),(2:Int))) (cond (decide ((0+v62.2.2.1.length)≤v62.2.2.1.length)) (cond (decide ((0+v62.2.2.2.length)≤v62.2.2.2.length)) (some ((v62.2.1.1,v62.2.1.2.1,v62.2.1.2.2.1,v62.2.1.2.2.2.1,v62.2.1.2.2.2.2.1,v62.2.1.2.2.2.2.2.1,v62.2.1.2.2.2.2.2.2.1,(List.take v62.2.2.1.length v62.2.2.1),(List.take v62.2.2.2.length v62.2.2.2),v62.2.1.2.2.2.2.2.2.2.1,v62.2.1.2.2.2.2.2.2.2.2.1,v62.2.1.2.2.2.2.2.2.2.2.2.1,v62.2.1.2.2.2.2.2.2.2.2.2.2.1,v62.2.1.2.2.2.2.2.2.2.2.2.2.2.1,v62.2.1.2.2.2.2.2.2.2.2.2.2.2.2),(0:Int))) none) none))))))))))))))):=by rw [F18_eq]; kernel_rfl
end Go.Proofs.Ytgbcankkfmhcoaa.VL
end
section
namespace Go.Proofs.Ytgbcankkfmhcoaa.VL
open Go
set_option linter.unusedVariables false
set_option linter.unusedSectionVars false
set_option linter.unusedSimpArgs false
set_option maxRecDepth 100000
variable [Val]
abbrev dr (s:ByteArray) (a:Nat):List UInt8:=s.toList.drop a
abbrev FitS (s:ByteArray):Prop:=s.size≤4611686018427387904
theorem num_rd {s:ByteArray} (hs:FitS s) {a:Nat} (ha:a≤s.size) :
  (∃ (x:Int) (a':Nat),U64 x∧a'≤s.size∧dr s a=numU x++dr s a'∧∀ ok,rNum (s,((a:Nat):Int),ok)=some (x,s,((a':Nat):Int),ok)) ∨
  ((∀ x r,U64 x→dr s a≠numU x++r)∧∀ ok,rNum (s,((a:Nat):Int),ok)=some (0,s,((a:Nat):Int),false)):=by
 have hl:=toList_len s
 have hA:s.toList=s.toList.take a++dr s a:=(List.take_append_drop a _).symm
 have hal:a=(s.toList.take a).length:=by rw [List.length_take]; omega
 rcases take_num hs hA hal with ⟨x,r,hx,h1,h2⟩ | ⟨h1,e,he,h2⟩
 ·left
  have h3:dr s (a+(numU x).length)=r:=by
   show s.toList.drop _=_
   rw [← List.drop_drop]
   show List.drop _ (dr s a)=_
   rw [h1,List.drop_left]
  have h4:a+(numU x).length≤s.size:=by
   have:=congrArg List.length h1
   rw [List.length_drop,List.length_append] at this
   omega
  refine ⟨x,a+(numU x).length,hx,h4,by rw [h3]; exact h1,fun ok=>?_⟩
  unfold rNum
  simp only [h2,Option.bind_some,nz0,cond_false]
 ·right
  refine ⟨h1,fun ok=>?_⟩
  have:(e != 0)=true:=by simpa using he
  unfold rNum
  simp only [h2,Option.bind_some,this,cond_true]
theorem small_rd {s:ByteArray} (hs:FitS s) {a:Nat} (ha:a≤s.size) :
  (∃ (x:Int) (a':Nat),(0≤x∧x≤1048576)∧a'≤s.size∧dr s a=numU x++dr s a'∧∀ ok,rSmall (s,((a:Nat):Int),ok)=some (x,s,((a':Nat):Int),ok)) ∨
  ((∀ x r,0≤x∧x≤1048576→dr s a≠numU x++r)∧∃ a':Nat,a'≤s.size∧∀ ok,rSmall (s,((a:Nat):Int),ok)=some (0,s,((a':Nat):Int),false)):=by
 rcases num_rd hs ha with ⟨x,a',hx,h1,h2,h3⟩ | ⟨h1,h2⟩
 ·by_cases hb:x > 1048576
  ·right
   refine ⟨fun y r hy he=>?_,a',h1,fun ok=>?_⟩
   ·rw [h2] at he
    obtain ⟨e,_⟩:=numU_pre hx.1 hy.1 he
    omega
   ·unfold rSmall
    simp only [h3,Option.bind_some,decide_eq_true hb,cond_true]
  ·left
   refine ⟨x,a',⟨hx.1,by omega⟩,h1,h2,fun ok=>?_⟩
   unfold rSmall
   simp only [h3,Option.bind_some,decide_eq_false hb,cond_false,wi (show -9223372036854775808≤x by have:=hx.1; omega) (show x≤9223372036854775807 by omega)]
 ·right
  refine ⟨fun y r hy=>h1 y r ⟨hy.1,by omega⟩,a,ha,fun ok=>?_⟩
  unfold rSmall
  simp only [h2,Option.bind_some]
  rfl
theorem many_rd {s:ByteArray} (hs:FitS s) {a:Nat} (ha:a≤s.size) {n:Int} (hn:0≤n∧n≤1048576) :
  (∃ (x:Int) (a':Nat),(0≤x∧x≤n)∧a'≤s.size∧dr s a=numU x++dr s a'∧∀ ok,rMany n (s,((a:Nat):Int),ok)=some (x,s,((a':Nat):Int),ok)) ∨
  ((∀ x r,0≤x∧x≤n→dr s a≠numU x++r)∧∃ a':Nat,a'≤s.size∧∀ ok,rMany n (s,((a:Nat):Int),ok)=some (0,s,((a':Nat):Int),false)):=by
 rcases small_rd hs ha with ⟨x,a',hx,h1,h2,h3⟩ | ⟨h1,a',h2,h3⟩
 ·by_cases hb:x > n
  ·right
   refine ⟨fun y r hy he=>?_,a',h1,fun ok=>?_⟩
   ·rw [h2] at he
    obtain ⟨e,_⟩:=numU_pre hx.1 hy.1 he
    omega
   ·unfold rMany
    simp only [h3,Option.bind_some,decide_eq_true hb,cond_true]
  ·left
   refine ⟨x,a',⟨hx.1,by omega⟩,h1,h2,fun ok=>?_⟩
   unfold rMany
   simp only [h3,Option.bind_some,decide_eq_false hb,cond_false]
 ·right
  refine ⟨fun y r hy=>h1 y r ⟨hy.1,by omega⟩,a',h2,fun ok=>?_⟩
  unfold rMany
  have:¬ (0:Int) > n:=by omega
  simp only [h3,Option.bind_some,decide_eq_false this,cond_false]
abbrev KnR (k:KW):Prop:=U64 k.1∧0≤k.2∧k.2≤1048576
theorem know_rd {s:ByteArray} (hs:FitS s) {a:Nat} (ha:a≤s.size) :
  (∃ (k:KW) (a':Nat),KnR k∧a'≤s.size∧dr s a=tabO k++dr s a'∧∀ ok,rKnow (s,((a:Nat):Int),ok)=some ((s,((a':Nat):Int),ok),k)) ∨
  ((∀ (k:KW) r,KnR k→dr s a≠tabO k++r)∧∃ (k:KW) (a':Nat),a'≤s.size∧∀ ok,rKnow (s,((a:Nat):Int),ok)=some ((s,((a':Nat):Int),false),k)):=by
 rcases num_rd hs ha with ⟨x,a',hx,h1,h2,h3⟩ | ⟨h1,h2⟩
 ·rcases small_rd hs h1 with ⟨y,b,hy,k1,k2,k3⟩ | ⟨k1,b,k2,k3⟩
  ·left
   refine ⟨(x,y),b,⟨hx,hy⟩,k1,by unfold tabO; rw [List.append_assoc,h2,k2],fun ok=>?_⟩
   unfold rKnow
   simp only [h3,k3,Option.bind_some]
  ·right
   refine ⟨fun k r hk he=>?_,(x,0),b,k2,fun ok=>?_⟩
   ·unfold tabO at he
    rw [h2,List.append_assoc] at he
    obtain ⟨_,e⟩:=numU_pre hx.1 hk.1.1 he
    exact k1 _ _ hk.2 e
   ·unfold rKnow
    simp only [h3,k3,Option.bind_some]
 ·right
  rcases small_rd hs ha with ⟨y,b,hy,k1,k2,k3⟩ | ⟨k1,b,k2,k3⟩
  ·refine ⟨fun k r hk he=>?_,(0,y),b,k1,fun ok=>?_⟩
   ·unfold tabO at he
    rw [List.append_assoc] at he
    exact h1 _ _ hk.1 he
   ·unfold rKnow
    simp only [h2,k3,Option.bind_some]
  ·refine ⟨fun k r hk he=>?_,(0,0),b,k2,fun ok=>?_⟩
   ·unfold tabO at he
    rw [List.append_assoc] at he
    exact h1 _ _ hk.1 he
   ·unfold rKnow
    simp only [h2,k3,Option.bind_some]
theorem tab_pre {x y:KW} {r t:List UInt8} (hx:KnR x) (hy:KnR y) (h:tabO x++r=tabO y++t):x=y∧r=t:=by
 unfold tabO at h
 rw [List.append_assoc,List.append_assoc] at h
 obtain ⟨h1,h2⟩:=numU_pre hx.1.1 hy.1.1 h
 obtain ⟨h3,h4⟩:=numU_pre hx.2.1 hy.2.1 h2
 exact ⟨Prod.ext h1 h3,h4⟩
abbrev NwR (k:NW):Prop:=(0≤k.1∧k.1≤1048576)∧KnR k.2
theorem new_pre {x y:NW} {r t:List UInt8} (hx:NwR x) (hy:NwR y) (h:newO x++r=newO y++t):x=y∧r=t:=by
 unfold newO at h
 simp only [List.append_assoc] at h
 obtain ⟨h1,h2⟩:=numU_pre hx.1.1 hy.1.1 h
 obtain ⟨h3,h4⟩:=tab_pre hx.2 hy.2 (r:=r) (t:=t) (by unfold tabO; rw [List.append_assoc,List.append_assoc]; exact h2)
 exact ⟨Prod.ext h1 h3,h4⟩
noncomputable def rTell (r:RS):Option (RS×NW):=Option.bind (rSmall r) (fun w=>Option.bind (rKnow w.2) (fun k=>some (k.1,w.1,k.2)))
theorem tell_rd {s:ByteArray} (hs:FitS s) {a:Nat} (ha:a≤s.size) :
  (∃ (k:NW) (a':Nat),NwR k∧a'≤s.size∧dr s a=newO k++dr s a'∧∀ ok,rTell (s,((a:Nat):Int),ok)=some ((s,((a':Nat):Int),ok),k)) ∨
  ((∀ (k:NW) r,NwR k→dr s a≠newO k++r)∧∃ (k:NW) (a':Nat),a'≤s.size∧∀ ok,rTell (s,((a:Nat):Int),ok)=some ((s,((a':Nat):Int),false),k)):=by
 have en:∀ (k:NW) (r:List UInt8),newO k++r=numU k.1++(tabO k.2++r):=by
  intro k r; unfold newO tabO; simp only [List.append_assoc]
 rcases small_rd hs ha with ⟨x,a',hx,h1,h2,h3⟩ | ⟨h1,a',h2,h3⟩
 ·rcases know_rd hs h1 with ⟨y,b,hy,k1,k2,k3⟩ | ⟨k1,y,b,k2,k3⟩
  ·left
   refine ⟨(x,y),b,⟨hx,hy⟩,k1,by rw [en,h2,k2],fun ok=>?_⟩
   unfold rTell
   simp only [h3,k3,Option.bind_some]
  ·right
   refine ⟨fun k r hk he=>?_,(x,y),b,k2,fun ok=>?_⟩
   ·rw [h2,en] at he
    obtain ⟨_,e⟩:=numU_pre hx.1 hk.1.1 he
    exact k1 _ _ hk.2 e
   ·unfold rTell
    simp only [h3,k3,Option.bind_some]
 ·right
  rcases know_rd hs h2 with ⟨y,b,hy,k1,k2,k3⟩ | ⟨k1,y,b,k2,k3⟩
  ·refine ⟨fun k r hk he=>?_,(0,y),b,k1,fun ok=>?_⟩
   ·rw [en] at he; exact h1 _ _ hk.1 he
   ·unfold rTell
    simp only [h3,k3,Option.bind_some]
  ·refine ⟨fun k r hk he=>?_,(0,y),b,k2,fun ok=>?_⟩
   ·rw [en] at he; exact h1 _ _ hk.1 he
   ·unfold rTell
    simp only [h3,k3,Option.bind_some]
theorem many_loop {E σ ρ:Type} {s:ByteArray} {f:σ→Option (σ ⊕ ρ)} {mk:Nat→Nat→Bool→List E→σ} {e:E→List UInt8} {P:E→Prop} {n B:Nat} {fin:Nat→Bool→List E→ρ}
  (step:∀ c a ok l,c < n→a≤s.size→l.length≤B→(∃ x a',P x∧a'≤s.size∧dr s a=e x++dr s a'∧f (mk c a ok l)=some (.inl (mk (c+1) a' ok (l++[x])))) ∨
   ((∀ x r,P x→dr s a≠e x++r)∧∃ x a',a'≤s.size∧f (mk c a ok l)=some (.inl (mk (c+1) a' false (l++[x])))))
  (last:∀ a ok l,f (mk n a ok l)=some (.inr (fin a ok l)))
  (pre:∀ x y r t,P x→P y→e x++r=e y++t→x=y∧r=t) :
  ∀ d c a ok l,c+d=n→a≤s.size→l.length+d≤B→∃ a' ok' l',loopX f (mk c a ok l)=some (fin a' ok' (l++l'))∧a'≤s.size∧l'.length=d ∧
   ((ok'=ok∧(∀ x ∈ l',P x)∧dr s a=l'.flatMap e++dr s a')∨((∀ (l2:List E) r,l2.length=d→(∀ x ∈ l2,P x)→dr s a≠l2.flatMap e++r)∧ok'=false))∧(ok=false→ok'=false):=by
 intro d
 induction d with
 | zero =>
  intro c a ok l h1 h2 h3
  obtain rfl:c=n:=by omega
  refine ⟨a,ok,[],?_,h2,rfl,.inl ⟨rfl,fun x hx=>by simp at hx,rfl⟩,fun h=>h⟩
  rw [loopX_eq,last,List.append_nil]
 | succ d ih =>
  intro c a ok l h1 h2 h3
  rcases step c a ok l (by omega) h2 (by omega) with ⟨x,a1,hx,k1,k2,k3⟩ | ⟨k1,x,a1,k2,k3⟩
  ·obtain ⟨a',ok',l',e1,e2,e3,e4,e5⟩:=ih (c+1) a1 ok (l++[x]) (by omega) k1 (by rw [List.length_append,List.length_singleton]; omega)
   refine ⟨a',ok',x::l',?_,e2,by rw [List.length_cons,e3],?_,e5⟩
   ·rw [loopX_eq,k3]
    simp only
    rw [e1,List.append_assoc]; rfl
   ·rcases e4 with ⟨g1,g2,g3⟩ | ⟨g1,g2⟩
    ·refine .inl ⟨g1,fun y hy=>?_,by rw [k2,g3,List.flatMap_cons,List.append_assoc]⟩
     rcases List.mem_cons.1 hy with rfl | hy
     ·exact hx
     ·exact g2 y hy
    ·refine .inr ⟨fun l2 r hl hp he=>?_,g2⟩
     cases l2 with
     | nil=>simp at hl
     | cons y l2 =>
      rw [k2,List.flatMap_cons,List.append_assoc] at he
      obtain ⟨_,he⟩:=pre x y _ _ hx (hp y (by simp)) he
      exact g1 l2 r (by simpa using hl) (fun z hz=>hp z (by simp [hz])) he
  ·obtain ⟨a',ok',l',e1,e2,e3,e4,e5⟩:=ih (c+1) a1 false (l++[x]) (by omega) k2 (by rw [List.length_append,List.length_singleton]; omega)
   refine ⟨a',ok',x::l',?_,e2,by rw [List.length_cons,e3],.inr ⟨fun l2 r hl hp he=>?_,e5 rfl⟩,fun _=>e5 rfl⟩
   ·rw [loopX_eq,k3]
    simp only
    rw [e1,List.append_assoc]; rfl
   ·cases l2 with
    | nil=>simp at hl
    | cons y l2 =>
     rw [List.flatMap_cons,List.append_assoc] at he
     exact k1 y _ (hp y (by simp)) he
end Go.Proofs.Ytgbcankkfmhcoaa.VL
end
section
namespace Go.Proofs.Ytgbcankkfmhcoaa.VL
open Go
set_option linter.unusedVariables false
set_option linter.unusedSectionVars false
set_option linter.unusedSimpArgs false
set_option maxRecDepth 100000
variable [Val]
def lay (m:MB):REC×(List NW×List KW) :=
 ((m.1,m.2.1,m.2.2.1,m.2.2.2.1,m.2.2.2.2.1,m.2.2.2.2.2.1,m.2.2.2.2.2.2.1,m.2.2.2.2.2.2.2.2.2.1,m.2.2.2.2.2.2.2.2.2.2.1,m.2.2.2.2.2.2.2.2.2.2.2.1,m.2.2.2.2.2.2.2.2.2.2.2.2.1,m.2.2.2.2.2.2.2.2.2.2.2.2.2.1,m.2.2.2.2.2.2.2.2.2.2.2.2.2.2),m.2.2.2.2.2.2.2.1,m.2.2.2.2.2.2.2.2.1)
def Rng (m:MB):Nat→Prop
 | 0=>U64 m.2.2.2.1
 | 1=>U64 m.2.2.2.2.2.2.2.2.2.1
 | 2=>U64 m.2.2.2.2.2.2.2.2.2.2.1
 | 3=>U64 m.2.2.2.2.2.2.2.2.2.2.2.2.2.1
 | 4=>0≤m.2.2.2.2.1∧m.2.2.2.2.1≤1048576
 | 5=>KnR (m.2.2.2.2.2.1,m.2.2.2.2.2.2.1)
 | 6=>m.2.2.2.2.2.2.2.1.length≤8∧∀ x ∈ m.2.2.2.2.2.2.2.1,NwR x
 | 7=>m.2.2.2.2.2.2.2.2.1.length≤64∧∀ x ∈ m.2.2.2.2.2.2.2.2.1,KnR x
 | 8=>0≤m.2.2.2.2.2.2.2.2.2.2.2.1∧m.2.2.2.2.2.2.2.2.2.2.2.1≤9223372036854775807
 | 9=>m.2.2.2.2.2.2.2.2.2.2.2.2.1.size≤200
 | _=>True
def zeroM:MB:=(0,0,0,0,0,0,0,[],[],0,0,0,ByteArray.mk #[],0,false)
structure BdM (m:MB):Prop where
 nw:m.2.2.2.2.2.2.2.1.length≤8
 tb:m.2.2.2.2.2.2.2.2.1.length≤64
 tk:m.2.2.2.2.2.2.2.2.2.2.2.2.1.size≤200
def Keep (j:Nat) (m' m:MB):Prop:=m'.1=m.1∧m'.2.1=m.2.1∧m'.2.2.1=m.2.2.1∧∀ i,i≤10→i≠j→fEq m' m i
def OutR (s:ByteArray) (j a:Nat) (ok:Bool) (m:MB) (a':Nat) (ok':Bool) (m':MB):Prop :=
 a'≤s.size∧BdM m'∧Keep j m' m∧(ok=false→ok'=false) ∧
 ((ok'=ok∧Rng m' j∧dr s a=pN m' j++dr s a')∨((∀ (x:MB) r,Rng x j→dr s a≠pN x j++r)∧(ok'=false∨(j=8∧m'.2.2.2.2.2.2.2.2.2.2.2.1 < 0))))
abbrev rS (i:Nat) (s:ByteArray) (a:Nat) (ok:Bool) (m:MB):Int×(RS×(REC×(List NW×List KW))):=(((i:Nat):Int),(s,((a:Nat):Int),ok),lay m)
def Steps (L:List Nat) (s:ByteArray) (i j a:Nat) (ok:Bool) (m:MB):Prop :=
 ∃ (a':Nat) (ok':Bool) (m':MB),rBod (L.map litN) (rS i s a ok m)=some (.inl (rS (i+1) s a' ok' m'))∧OutR s j a ok m a' ok' m'
theorem le10 {i:Nat} (h:i≤10):i=0∨i=1∨i=2∨i=3∨i=4∨i=5∨i=6∨i=7∨i=8∨i=9∨i=10:=by omega
theorem fEq_refl (m:MB) (j:Nat):fEq m m j:=by
 match j with
 | 0 | 1 | 2 | 3 | 4 | 6 | 7 | 8 | 9=>rfl
 | 5=>exact ⟨rfl,rfl⟩
 | j+10=>rfl
theorem step0 {L:List Nat} {s:ByteArray} (hs:FitS s) {i a:Nat} {ok:Bool} {m:MB} (hL:L[i]?=some 0) (hi:i≤100) (ha:a≤s.size) (b:BdM m) (hz:fEq m zeroM 0):Steps L s i 0 a ok m:=by
 obtain ⟨k,fr,to,sq,wh,ki,ks,nw,tb,ep,bo,ak,tk,tn,gd⟩:=m
 have q1:((i:Nat):Int) < (((L.map litN).length:Nat):Int):=by
  rw [List.length_map]
  have:=(List.getElem?_eq_some_iff.1 hL).1
  omega
 have q2:(0:Int)≤((i:Nat):Int):=by omega
 have gg:(L.map litN)[i]?=some (litN 0):=by rw [List.getElem?_map,hL]; rfl
 have ww:=w1 (show i≤9223372036854775806 by omega)
 simp only [litN] at gg
 rcases num_rd hs ha with ⟨x,a',hx,h1,h2,h3⟩ | ⟨h1,h2⟩
 ·refine ⟨a',ok,(k,fr,to,x,wh,ki,ks,nw,tb,ep,bo,ak,tk,tn,gd),?_,h1,⟨b.nw,b.tb,b.tk⟩,by refine ⟨rfl,rfl,rfl,fun i hi hn=>?_⟩; rcases le10 hi with rfl | rfl | rfl | rfl | rfl | rfl | rfl | rfl | rfl | rfl | rfl<;>first | exact absurd rfl hn | exact rfl | exact ⟨rfl,rfl⟩,fun h=>h,.inl ⟨rfl,hx,h2⟩⟩
  unfold rBod rS lay
  simp -implicitDefEqProofs only [q1,q2,gg,nq,h3,ww,eq_self,xs]
 ·refine ⟨a,false,(k,fr,to,0,wh,ki,ks,nw,tb,ep,bo,ak,tk,tn,gd),?_,ha,⟨b.nw,b.tb,b.tk⟩,by refine ⟨rfl,rfl,rfl,fun i hi hn=>?_⟩; rcases le10 hi with rfl | rfl | rfl | rfl | rfl | rfl | rfl | rfl | rfl | rfl | rfl<;>first | exact absurd rfl hn | exact rfl | exact ⟨rfl,rfl⟩,fun _=>rfl,.inr ⟨fun x r hx=>h1 _ r hx,.inl rfl⟩⟩
  unfold rBod rS lay
  simp -implicitDefEqProofs only [q1,q2,gg,nq,h2,ww,eq_self,xs]
theorem step1 {L:List Nat} {s:ByteArray} (hs:FitS s) {i a:Nat} {ok:Bool} {m:MB} (hL:L[i]?=some 1) (hi:i≤100) (ha:a≤s.size) (b:BdM m) (hz:fEq m zeroM 1):Steps L s i 1 a ok m:=by
 obtain ⟨k,fr,to,sq,wh,ki,ks,nw,tb,ep,bo,ak,tk,tn,gd⟩:=m
 have q1:((i:Nat):Int) < (((L.map litN).length:Nat):Int):=by
  rw [List.length_map]
  have:=(List.getElem?_eq_some_iff.1 hL).1
  omega
 have q2:(0:Int)≤((i:Nat):Int):=by omega
 have gg:(L.map litN)[i]?=some (litN 1):=by rw [List.getElem?_map,hL]; rfl
 have ww:=w1 (show i≤9223372036854775806 by omega)
 simp only [litN] at gg
 rcases num_rd hs ha with ⟨x,a',hx,h1,h2,h3⟩ | ⟨h1,h2⟩
 ·refine ⟨a',ok,(k,fr,to,sq,wh,ki,ks,nw,tb,x,bo,ak,tk,tn,gd),?_,h1,⟨b.nw,b.tb,b.tk⟩,by refine ⟨rfl,rfl,rfl,fun i hi hn=>?_⟩; rcases le10 hi with rfl | rfl | rfl | rfl | rfl | rfl | rfl | rfl | rfl | rfl | rfl<;>first | exact absurd rfl hn | exact rfl | exact ⟨rfl,rfl⟩,fun h=>h,.inl ⟨rfl,hx,h2⟩⟩
  unfold rBod rS lay
  simp -implicitDefEqProofs only [q1,q2,gg,nq,h3,ww,eq_self,xs]
 ·refine ⟨a,false,(k,fr,to,sq,wh,ki,ks,nw,tb,0,bo,ak,tk,tn,gd),?_,ha,⟨b.nw,b.tb,b.tk⟩,by refine ⟨rfl,rfl,rfl,fun i hi hn=>?_⟩; rcases le10 hi with rfl | rfl | rfl | rfl | rfl | rfl | rfl | rfl | rfl | rfl | rfl<;>first | exact absurd rfl hn | exact rfl | exact ⟨rfl,rfl⟩,fun _=>rfl,.inr ⟨fun x r hx=>h1 _ r hx,.inl rfl⟩⟩
  unfold rBod rS lay
  simp -implicitDefEqProofs only [q1,q2,gg,nq,h2,ww,eq_self,xs]
theorem step2 {L:List Nat} {s:ByteArray} (hs:FitS s) {i a:Nat} {ok:Bool} {m:MB} (hL:L[i]?=some 2) (hi:i≤100) (ha:a≤s.size) (b:BdM m) (hz:fEq m zeroM 2):Steps L s i 2 a ok m:=by
 obtain ⟨k,fr,to,sq,wh,ki,ks,nw,tb,ep,bo,ak,tk,tn,gd⟩:=m
 have q1:((i:Nat):Int) < (((L.map litN).length:Nat):Int):=by
  rw [List.length_map]
  have:=(List.getElem?_eq_some_iff.1 hL).1
  omega
 have q2:(0:Int)≤((i:Nat):Int):=by omega
 have gg:(L.map litN)[i]?=some (litN 2):=by rw [List.getElem?_map,hL]; rfl
 have ww:=w1 (show i≤9223372036854775806 by omega)
 simp only [litN] at gg
 rcases num_rd hs ha with ⟨x,a',hx,h1,h2,h3⟩ | ⟨h1,h2⟩
 ·refine ⟨a',ok,(k,fr,to,sq,wh,ki,ks,nw,tb,ep,x,ak,tk,tn,gd),?_,h1,⟨b.nw,b.tb,b.tk⟩,by refine ⟨rfl,rfl,rfl,fun i hi hn=>?_⟩; rcases le10 hi with rfl | rfl | rfl | rfl | rfl | rfl | rfl | rfl | rfl | rfl | rfl<;>first | exact absurd rfl hn | exact rfl | exact ⟨rfl,rfl⟩,fun h=>h,.inl ⟨rfl,hx,h2⟩⟩
  unfold rBod rS lay
  simp -implicitDefEqProofs only [q1,q2,gg,nq,h3,ww,eq_self,xs]
 ·refine ⟨a,false,(k,fr,to,sq,wh,ki,ks,nw,tb,ep,0,ak,tk,tn,gd),?_,ha,⟨b.nw,b.tb,b.tk⟩,by refine ⟨rfl,rfl,rfl,fun i hi hn=>?_⟩; rcases le10 hi with rfl | rfl | rfl | rfl | rfl | rfl | rfl | rfl | rfl | rfl | rfl<;>first | exact absurd rfl hn | exact rfl | exact ⟨rfl,rfl⟩,fun _=>rfl,.inr ⟨fun x r hx=>h1 _ r hx,.inl rfl⟩⟩
  unfold rBod rS lay
  simp -implicitDefEqProofs only [q1,q2,gg,nq,h2,ww,eq_self,xs]
theorem step3 {L:List Nat} {s:ByteArray} (hs:FitS s) {i a:Nat} {ok:Bool} {m:MB} (hL:L[i]?=some 3) (hi:i≤100) (ha:a≤s.size) (b:BdM m) (hz:fEq m zeroM 3):Steps L s i 3 a ok m:=by
 obtain ⟨k,fr,to,sq,wh,ki,ks,nw,tb,ep,bo,ak,tk,tn,gd⟩:=m
 have q1:((i:Nat):Int) < (((L.map litN).length:Nat):Int):=by
  rw [List.length_map]
  have:=(List.getElem?_eq_some_iff.1 hL).1
  omega
 have q2:(0:Int)≤((i:Nat):Int):=by omega
 have gg:(L.map litN)[i]?=some (litN 3):=by rw [List.getElem?_map,hL]; rfl
 have ww:=w1 (show i≤9223372036854775806 by omega)
 simp only [litN] at gg
 rcases num_rd hs ha with ⟨x,a',hx,h1,h2,h3⟩ | ⟨h1,h2⟩
 ·refine ⟨a',ok,(k,fr,to,sq,wh,ki,ks,nw,tb,ep,bo,ak,tk,x,gd),?_,h1,⟨b.nw,b.tb,b.tk⟩,by refine ⟨rfl,rfl,rfl,fun i hi hn=>?_⟩; rcases le10 hi with rfl | rfl | rfl | rfl | rfl | rfl | rfl | rfl | rfl | rfl | rfl<;>first | exact absurd rfl hn | exact rfl | exact ⟨rfl,rfl⟩,fun h=>h,.inl ⟨rfl,hx,h2⟩⟩
  unfold rBod rS lay
  simp -implicitDefEqProofs only [q1,q2,gg,nq,h3,ww,eq_self,xs]
 ·refine ⟨a,false,(k,fr,to,sq,wh,ki,ks,nw,tb,ep,bo,ak,tk,0,gd),?_,ha,⟨b.nw,b.tb,b.tk⟩,by refine ⟨rfl,rfl,rfl,fun i hi hn=>?_⟩; rcases le10 hi with rfl | rfl | rfl | rfl | rfl | rfl | rfl | rfl | rfl | rfl | rfl<;>first | exact absurd rfl hn | exact rfl | exact ⟨rfl,rfl⟩,fun _=>rfl,.inr ⟨fun x r hx=>h1 _ r hx,.inl rfl⟩⟩
  unfold rBod rS lay
  simp -implicitDefEqProofs only [q1,q2,gg,nq,h2,ww,eq_self,xs]
theorem step4 {L:List Nat} {s:ByteArray} (hs:FitS s) {i a:Nat} {ok:Bool} {m:MB} (hL:L[i]?=some 4) (hi:i≤100) (ha:a≤s.size) (b:BdM m) (hz:fEq m zeroM 4):Steps L s i 4 a ok m:=by
 obtain ⟨k,fr,to,sq,wh,ki,ks,nw,tb,ep,bo,ak,tk,tn,gd⟩:=m
 have q1:((i:Nat):Int) < (((L.map litN).length:Nat):Int):=by
  rw [List.length_map]
  have:=(List.getElem?_eq_some_iff.1 hL).1
  omega
 have q2:(0:Int)≤((i:Nat):Int):=by omega
 have gg:(L.map litN)[i]?=some (litN 4):=by rw [List.getElem?_map,hL]; rfl
 have ww:=w1 (show i≤9223372036854775806 by omega)
 simp only [litN] at gg
 rcases small_rd hs ha with ⟨x,a',hx,h1,h2,h3⟩ | ⟨h1,a',h4,h2⟩
 ·refine ⟨a',ok,(k,fr,to,sq,x,ki,ks,nw,tb,ep,bo,ak,tk,tn,gd),?_,h1,⟨b.nw,b.tb,b.tk⟩,by refine ⟨rfl,rfl,rfl,fun i hi hn=>?_⟩; rcases le10 hi with rfl | rfl | rfl | rfl | rfl | rfl | rfl | rfl | rfl | rfl | rfl<;>first | exact absurd rfl hn | exact rfl | exact ⟨rfl,rfl⟩,fun h=>h,.inl ⟨rfl,hx,h2⟩⟩
  unfold rBod rS lay
  simp -implicitDefEqProofs only [q1,q2,gg,nq,h3,ww,eq_self,xs]
 ·refine ⟨a',false,(k,fr,to,sq,0,ki,ks,nw,tb,ep,bo,ak,tk,tn,gd),?_,h4,⟨b.nw,b.tb,b.tk⟩,by refine ⟨rfl,rfl,rfl,fun i hi hn=>?_⟩; rcases le10 hi with rfl | rfl | rfl | rfl | rfl | rfl | rfl | rfl | rfl | rfl | rfl<;>first | exact absurd rfl hn | exact rfl | exact ⟨rfl,rfl⟩,fun _=>rfl,.inr ⟨fun x r hx=>h1 _ r hx,.inl rfl⟩⟩
  unfold rBod rS lay
  simp -implicitDefEqProofs only [q1,q2,gg,nq,h2,ww,eq_self,xs]
theorem step8 {L:List Nat} {s:ByteArray} (hs:FitS s) {i a:Nat} {ok:Bool} {m:MB} (hL:L[i]?=some 8) (hi:i≤100) (ha:a≤s.size) (b:BdM m) (hz:fEq m zeroM 8):Steps L s i 8 a ok m:=by
 obtain ⟨k,fr,to,sq,wh,ki,ks,nw,tb,ep,bo,ak,tk,tn,gd⟩:=m
 have q1:((i:Nat):Int) < (((L.map litN).length:Nat):Int):=by
  rw [List.length_map]
  have:=(List.getElem?_eq_some_iff.1 hL).1
  omega
 have q2:(0:Int)≤((i:Nat):Int):=by omega
 have gg:(L.map litN)[i]?=some (litN 8):=by rw [List.getElem?_map,hL]; rfl
 have ww:=w1 (show i≤9223372036854775806 by omega)
 simp only [litN] at gg
 rcases num_rd hs ha with ⟨x,a',hx,h1,h2,h3⟩ | ⟨h1,h2⟩
 ·refine ⟨a',ok,(k,fr,to,sq,wh,ki,ks,nw,tb,ep,bo,IntKind.wrap .i64 x,tk,tn,gd),?_,h1,⟨b.nw,b.tb,b.tk⟩,by refine ⟨rfl,rfl,rfl,fun i hi hn=>?_⟩; rcases le10 hi with rfl | rfl | rfl | rfl | rfl | rfl | rfl | rfl | rfl | rfl | rfl<;>first | exact absurd rfl hn | exact rfl | exact ⟨rfl,rfl⟩,fun h=>h,?_⟩
  ·unfold rBod rS lay
   simp -implicitDefEqProofs only [q1,q2,gg,nq,h3,ww,eq_self,xs]
  ·by_cases hb:x≤9223372036854775807
   ·left
    have e:IntKind.wrap .i64 x=x:=wi (by have:=hx.1; omega) hb
    rw [e]
    exact ⟨rfl,⟨hx.1,hb⟩,h2⟩
   ·right
    refine ⟨fun y r hy he=>?_,.inr ⟨rfl,?_⟩⟩
    ·rw [h2] at he
     obtain ⟨e,_⟩:=numU_pre hx.1 hy.1 he
     have:=hy.2
     omega
    ·show IntKind.wrap .i64 x < 0
     have:=hx.2
     rw [IntKind.wrap_i64]; omega
 ·refine ⟨a,false,(k,fr,to,sq,wh,ki,ks,nw,tb,ep,bo,0,tk,tn,gd),?_,ha,⟨b.nw,b.tb,b.tk⟩,by refine ⟨rfl,rfl,rfl,fun i hi hn=>?_⟩; rcases le10 hi with rfl | rfl | rfl | rfl | rfl | rfl | rfl | rfl | rfl | rfl | rfl<;>first | exact absurd rfl hn | exact rfl | exact ⟨rfl,rfl⟩,fun _=>rfl,.inr ⟨fun x r hx=>h1 _ r ⟨hx.1,by have:=hx.2; omega⟩,.inl rfl⟩⟩
  have w0:IntKind.wrap .i64 (0:Int)=0:=rfl
  unfold rBod rS lay
  simp -implicitDefEqProofs only [q1,q2,gg,nq,h2,w0,ww,eq_self,xs]
theorem step10 {L:List Nat} {s:ByteArray} (hs:FitS s) {i a:Nat} {ok:Bool} {m:MB} (hL:L[i]?=some 10) (hi:i≤100) (ha:a≤s.size) (b:BdM m) (hz:fEq m zeroM 10):Steps L s i 10 a ok m:=by
 obtain ⟨k,fr,to,sq,wh,ki,ks,nw,tb,ep,bo,ak,tk,tn,gd⟩:=m
 have q1:((i:Nat):Int) < (((L.map litN).length:Nat):Int):=by
  rw [List.length_map]
  have:=(List.getElem?_eq_some_iff.1 hL).1
  omega
 have q2:(0:Int)≤((i:Nat):Int):=by omega
 have gg:(L.map litN)[i]?=some (litN 10):=by rw [List.getElem?_map,hL]; rfl
 have ww:=w1 (show i≤9223372036854775806 by omega)
 simp only [litN] at gg
 rcases many_rd hs ha (n:=1) (by omega) with ⟨x,a',hx,h1,h2,h3⟩ | ⟨h1,a',h4,h2⟩
 ·refine ⟨a',ok,(k,fr,to,sq,wh,ki,ks,nw,tb,ep,bo,ak,tk,tn,(x==1)),?_,h1,⟨b.nw,b.tb,b.tk⟩,by refine ⟨rfl,rfl,rfl,fun i hi hn=>?_⟩; rcases le10 hi with rfl | rfl | rfl | rfl | rfl | rfl | rfl | rfl | rfl | rfl | rfl<;>first | exact absurd rfl hn | exact rfl | exact ⟨rfl,rfl⟩,fun h=>h,.inl ⟨rfl,trivial,?_⟩⟩
  ·unfold rBod rS lay
   simp -implicitDefEqProofs only [q1,q2,gg,nq,h3,ww,eq_self,xs]
  ·rw [h2]
   congr 1
   show numU x=numU (if (x==1)=true then 1 else 0)
   rcases (by omega:x=0∨x=1) with rfl | rfl<;>rfl
 ·refine ⟨a',false,(k,fr,to,sq,wh,ki,ks,nw,tb,ep,bo,ak,tk,tn,((0:Int)==1)),?_,h4,⟨b.nw,b.tb,b.tk⟩,by refine ⟨rfl,rfl,rfl,fun i hi hn=>?_⟩; rcases le10 hi with rfl | rfl | rfl | rfl | rfl | rfl | rfl | rfl | rfl | rfl | rfl<;>first | exact absurd rfl hn | exact rfl | exact ⟨rfl,rfl⟩,fun _=>rfl,.inr ⟨fun x r hx=>h1 _ r (by split<;>omega),.inl rfl⟩⟩
  unfold rBod rS lay
  simp -implicitDefEqProofs only [q1,q2,gg,nq,h2,ww,eq_self,xs]
theorem step5 {L:List Nat} {s:ByteArray} (hs:FitS s) {i a:Nat} {ok:Bool} {m:MB} (hL:L[i]?=some 5) (hi:i≤100) (ha:a≤s.size) (b:BdM m) (hz:fEq m zeroM 5):Steps L s i 5 a ok m:=by
 obtain ⟨k,fr,to,sq,wh,ki,ks,nw,tb,ep,bo,ak,tk,tn,gd⟩:=m
 have q1:((i:Nat):Int) < (((L.map litN).length:Nat):Int):=by
  rw [List.length_map]
  have:=(List.getElem?_eq_some_iff.1 hL).1
  omega
 have q2:(0:Int)≤((i:Nat):Int):=by omega
 have gg:(L.map litN)[i]?=some (litN 5):=by rw [List.getElem?_map,hL]; rfl
 have ww:=w1 (show i≤9223372036854775806 by omega)
 simp only [litN] at gg
 rcases num_rd hs ha with ⟨x,a',hx,h1,h2,h3⟩ | ⟨h1,h2⟩
 ·rcases small_rd hs h1 with ⟨y,c,hy,k1,k2,k3⟩ | ⟨k1,c,k2,k3⟩
  ·refine ⟨c,ok,(k,fr,to,sq,wh,x,y,nw,tb,ep,bo,ak,tk,tn,gd),?_,k1,⟨b.nw,b.tb,b.tk⟩,by refine ⟨rfl,rfl,rfl,fun i hi hn=>?_⟩; rcases le10 hi with rfl | rfl | rfl | rfl | rfl | rfl | rfl | rfl | rfl | rfl | rfl<;>first | exact absurd rfl hn | exact rfl | exact ⟨rfl,rfl⟩,fun h=>h,.inl ⟨rfl,⟨hx,hy⟩,?_⟩⟩
   ·unfold rBod rS lay
    simp -implicitDefEqProofs only [q1,q2,gg,nq,h3,k3,ww,eq_self,xs]
   ·show _=(numU x++numU y)++_
    rw [List.append_assoc,h2,k2]
  ·refine ⟨c,false,(k,fr,to,sq,wh,x,0,nw,tb,ep,bo,ak,tk,tn,gd),?_,k2,⟨b.nw,b.tb,b.tk⟩,by refine ⟨rfl,rfl,rfl,fun i hi hn=>?_⟩; rcases le10 hi with rfl | rfl | rfl | rfl | rfl | rfl | rfl | rfl | rfl | rfl | rfl<;>first | exact absurd rfl hn | exact rfl | exact ⟨rfl,rfl⟩,fun _=>rfl,.inr ⟨fun z r hz he=>?_,.inl rfl⟩⟩
   ·unfold rBod rS lay
    simp -implicitDefEqProofs only [q1,q2,gg,nq,h3,k3,ww,eq_self,xs]
   ·simp only [pN,List.append_assoc] at he
    rw [h2] at he
    obtain ⟨_,e⟩:=numU_pre hx.1 hz.1.1 he
    exact k1 _ _ hz.2 e
 ·rcases small_rd hs ha with ⟨y,c,hy,k1,k2,k3⟩ | ⟨k1,c,k2,k3⟩
  ·refine ⟨c,false,(k,fr,to,sq,wh,0,y,nw,tb,ep,bo,ak,tk,tn,gd),?_,k1,⟨b.nw,b.tb,b.tk⟩,by refine ⟨rfl,rfl,rfl,fun i hi hn=>?_⟩; rcases le10 hi with rfl | rfl | rfl | rfl | rfl | rfl | rfl | rfl | rfl | rfl | rfl<;>first | exact absurd rfl hn | exact rfl | exact ⟨rfl,rfl⟩,fun _=>rfl,.inr ⟨fun z r hz he=>?_,.inl rfl⟩⟩
   ·unfold rBod rS lay
    simp -implicitDefEqProofs only [q1,q2,gg,nq,h2,k3,ww,eq_self,xs]
   ·simp only [pN,List.append_assoc] at he
    exact h1 _ _ hz.1 he
  ·refine ⟨c,false,(k,fr,to,sq,wh,0,0,nw,tb,ep,bo,ak,tk,tn,gd),?_,k2,⟨b.nw,b.tb,b.tk⟩,by refine ⟨rfl,rfl,rfl,fun i hi hn=>?_⟩; rcases le10 hi with rfl | rfl | rfl | rfl | rfl | rfl | rfl | rfl | rfl | rfl | rfl<;>first | exact absurd rfl hn | exact rfl | exact ⟨rfl,rfl⟩,fun _=>rfl,.inr ⟨fun z r hz he=>?_,.inl rfl⟩⟩
   ·unfold rBod rS lay
    simp -implicitDefEqProofs only [q1,q2,gg,nq,h2,k3,ww,eq_self,xs]
   ·simp only [pN,List.append_assoc] at he
    exact h1 _ _ hz.1 he
theorem step9 {L:List Nat} {s:ByteArray} (hs:FitS s) {i a:Nat} {ok:Bool} {m:MB} (hL:L[i]?=some 9) (hi:i≤100) (ha:a≤s.size) (b:BdM m) (hz:fEq m zeroM 9):Steps L s i 9 a ok m:=by
 obtain ⟨k,fr,to,sq,wh,ki,ks,nw,tb,ep,bo,ak,tk,tn,gd⟩:=m
 have q1:((i:Nat):Int) < (((L.map litN).length:Nat):Int):=by
  rw [List.length_map]
  have:=(List.getElem?_eq_some_iff.1 hL).1
  omega
 have q2:(0:Int)≤((i:Nat):Int):=by omega
 have gg:(L.map litN)[i]?=some (litN 9):=by rw [List.getElem?_map,hL]; rfl
 have ww:=w1 (show i≤9223372036854775806 by omega)
 simp only [litN] at gg
 have hl:=toList_len s
 have hA:s.toList=s.toList.take a++dr s a:=(List.take_append_drop a _).symm
 have hal:a=(s.toList.take a).length:=by rw [List.length_take]; omega
 rcases take_text hs hA hal with ⟨t,r,ht,h1,h2⟩ | ⟨h1,e,he,h2⟩
 ·have h3:dr s (a+((numU ((t.length:Nat):Int)).length+t.length))=r:=by
   show s.toList.drop _=_
   rw [← List.drop_drop]
   show List.drop _ (dr s a)=_
   rw [h1,← List.append_assoc,← List.length_append,List.drop_left]
  have h4:a+((numU ((t.length:Nat):Int)).length+t.length)≤s.size:=by
   have:=congrArg List.length h1
   rw [List.length_drop,List.length_append,List.length_append] at this
   omega
  refine ⟨a+((numU ((t.length:Nat):Int)).length+t.length),ok,(k,fr,to,sq,wh,ki,ks,nw,tb,ep,bo,ak,mkB t,tn,gd),?_,h4,⟨b.nw,b.tb,by rw [mkB_size]; exact ht⟩,by refine ⟨rfl,rfl,rfl,fun i hi hn=>?_⟩; rcases le10 hi with rfl | rfl | rfl | rfl | rfl | rfl | rfl | rfl | rfl | rfl | rfl<;>first | exact absurd rfl hn | exact rfl | exact ⟨rfl,rfl⟩,fun h=>h,.inl ⟨rfl,by show (mkB t).size≤200; rw [mkB_size]; exact ht,?_⟩⟩
  ·unfold rBod rS lay
   simp -implicitDefEqProofs only [q1,q2,gg,nq,nz0,h2,ww,eq_self,xs]
  ·show _=(numU (((mkB t).size:Nat):Int)++(mkB t).toList)++_
   rw [h3,mkB_size,mkB_toList,List.append_assoc,h1]
 ·refine ⟨a,false,(k,fr,to,sq,wh,ki,ks,nw,tb,ep,bo,ak,tk,tn,gd),?_,ha,⟨b.nw,b.tb,b.tk⟩,by refine ⟨rfl,rfl,rfl,fun i hi hn=>?_⟩; rcases le10 hi with rfl | rfl | rfl | rfl | rfl | rfl | rfl | rfl | rfl | rfl | rfl<;>first | exact absurd rfl hn | exact rfl | exact ⟨rfl,rfl⟩,fun _=>rfl,.inr ⟨fun x r hx hh=>?_,.inl rfl⟩⟩
  ·have q:(e != 0)=true:=by simpa using he
   unfold rBod rS lay
   simp -implicitDefEqProofs only [q1,q2,gg,nq,q,h2,ww,eq_self,xs]
  ·simp only [pN,List.append_assoc] at hh
   have el:=toList_len x.2.2.2.2.2.2.2.2.2.2.2.2.1
   exact h1 x.2.2.2.2.2.2.2.2.2.2.2.2.1.toList r (by rw [el]; exact hx) (by rw [el]; exact hh)
theorem nBod_step {v11:Int×(RS×(REC×(List NW×List KW)))} {v32:Int×RS} {c n:Nat} {r r':RS} {R:REC} {l:List NW} {x:NW} (hn:v32.1=((n:Nat):Int)) (hc:c < n) (hn2:n≤100) (hl:l.length≤100) (h:rTell r=some (r',x)) :
  nBod v11 v32 (((c:Nat):Int),r,R,l)=some (.inl (((c+1:Nat):Int),r',R,l++[x])):=by
 have q1:((c:Nat):Int) < v32.1:=by rw [hn]; omega
 have ww:=w1 (show c≤9223372036854775806 by omega)
 unfold rTell at h
 cases e1:rSmall r with
 | none=>rw [e1] at h; cases h
 | some w =>
  rw [e1,Option.bind_some] at h
  cases e2:rKnow w.2 with
  | none=>rw [e2] at h; cases h
  | some k =>
   rw [e2,Option.bind_some] at h
   obtain ⟨rfl,rfl⟩:k.1=r'∧(w.1,k.2)=x:=by cases h; exact ⟨rfl,rfl⟩
   have b1:((l.length+1:Nat):Int) * 24≤70368744177664:=by omega
   have b2:((l.length+1:Nat):Int)≤70368744177664:=by omega
   have b3:¬ l.length+1≤l.length:=by omega
   unfold nBod
   simp -implicitDefEqProofs only [q1,e1,e2,b1,b2,b3,ww,eq_self,xs]
theorem nBod_last {v11:Int×(RS×(REC×(List NW×List KW)))} {v32:Int×RS} {n:Nat} {r:RS} {R:REC} {l:List NW} (hn:v32.1=((n:Nat):Int)) :
  nBod v11 v32 (((n:Nat):Int),r,R,l)=some (.inr (.inl (IntKind.wrap .i64 (v11.1+1),r,R,l,v11.2.2.2.2))):=by
 have q1:¬ ((n:Nat):Int) < v32.1:=by rw [hn]; omega
 unfold nBod
 simp -implicitDefEqProofs only [q1,eq_self,xs]
theorem step6 {L:List Nat} {s:ByteArray} (hs:FitS s) {i a:Nat} {ok:Bool} {m:MB} (hL:L[i]?=some 6) (hi:i≤100) (ha:a≤s.size) (b:BdM m) (hz:fEq m zeroM 6):Steps L s i 6 a ok m:=by
 obtain ⟨k,fr,to,sq,wh,ki,ks,nw,tb,ep,bo,ak,tk,tn,gd⟩:=m
 have q1:((i:Nat):Int) < (((L.map litN).length:Nat):Int):=by
  rw [List.length_map]
  have:=(List.getElem?_eq_some_iff.1 hL).1
  omega
 have q2:(0:Int)≤((i:Nat):Int):=by omega
 have gg:(L.map litN)[i]?=some (litN 6):=by rw [List.getElem?_map,hL]; rfl
 have ww:=w1 (show i≤9223372036854775806 by omega)
 simp only [litN] at gg
 obtain rfl:nw=[]:=hz
 rcases many_rd hs ha (n:=8) (by omega) with ⟨x,a',hx,h1,h2,h3⟩ | ⟨h1,a',h4,h2⟩
 ·obtain ⟨n,rfl⟩:∃ n:Nat,x=n:=⟨x.toNat,by omega⟩
  have key:=many_loop (s:=s) (f:=nBod (rS i s a ok (k,fr,to,sq,wh,ki,ks,[],tb,ep,bo,ak,tk,tn,gd)) (((n:Nat):Int),s,((a':Nat):Int),ok)) (mk:=fun c a ok l=>(((c:Nat):Int),(s,((a:Nat):Int),ok),(k,fr,to,sq,wh,ki,ks,ep,bo,ak,tk,tn,gd),l)) (e:=newO) (P:=NwR) (n:=n) (B:=8)
   (fin:=fun a ok l=>.inl (IntKind.wrap .i64 (((i:Nat):Int)+1),(s,((a:Nat):Int),ok),(k,fr,to,sq,wh,ki,ks,ep,bo,ak,tk,tn,gd),l,tb))
   (fun c a ok l hc ha hl=>by
    rcases tell_rd hs ha with ⟨x,b,p1,p2,p3,p4⟩ | ⟨p1,x,b,p2,p3⟩
    ·exact .inl ⟨x,b,p1,p2,p3,nBod_step rfl hc (by omega) (by omega) (p4 ok)⟩
    ·exact .inr ⟨p1,x,b,p2,nBod_step rfl hc (by omega) (by omega) (p3 ok)⟩)
   (fun a ok l=>nBod_last rfl)
   (fun x y r t=>new_pre) n 0 a' ok [] (by omega) h1 (by simp; omega)
  obtain ⟨a2,ok2,l,e1,e2,e3,e4,e5⟩:=key
  rw [List.nil_append] at e1
  refine ⟨a2,ok2,(k,fr,to,sq,wh,ki,ks,l,tb,ep,bo,ak,tk,tn,gd),?_,e2,⟨by show l.length≤8; omega,b.tb,b.tk⟩,by refine ⟨rfl,rfl,rfl,fun i hi hn=>?_⟩; rcases le10 hi with rfl | rfl | rfl | rfl | rfl | rfl | rfl | rfl | rfl | rfl | rfl<;>first | exact absurd rfl hn | exact rfl | exact ⟨rfl,rfl⟩,e5,?_⟩
  ·have e1':=e1
   unfold rS lay at e1'
   simp only at e1'
   unfold rBod rS lay
   simp -implicitDefEqProofs only [q1,q2,gg,nq,h3,eq_self,xs]
   rw [Int.natCast_zero] at e1'
   rw [e1',ww]
  ·rcases e4 with ⟨g1,g2,g3⟩ | ⟨g1,g2⟩
   ·refine .inl ⟨g1,⟨by show l.length≤_; omega,g2⟩,?_⟩
    show _=(numU ((l.length:Nat):Int)++l.flatMap newO)++_
    rw [List.append_assoc,h2,e3,g3]
   ·refine .inr ⟨fun y r hy he=>?_,.inl g2⟩
    simp only [pN,List.append_assoc] at he
    rw [h2] at he
    obtain ⟨q,he⟩:=numU_pre (by omega) (by omega) he
    exact g1 _ r (by omega) hy.2 he
 ·refine ⟨a',false,(k,fr,to,sq,wh,ki,ks,[],tb,ep,bo,ak,tk,tn,gd),?_,h4,⟨b.nw,b.tb,b.tk⟩,by refine ⟨rfl,rfl,rfl,fun i hi hn=>?_⟩; rcases le10 hi with rfl | rfl | rfl | rfl | rfl | rfl | rfl | rfl | rfl | rfl | rfl<;>first | exact absurd rfl hn | exact rfl | exact ⟨rfl,rfl⟩,fun _=>rfl,.inr ⟨fun y r hy he=>?_,.inl rfl⟩⟩
  ·have lst:=nBod_last (v11:=rS i s a ok (k,fr,to,sq,wh,ki,ks,[],tb,ep,bo,ak,tk,tn,gd)) (v32:=((0:Int),s,((a':Nat):Int),false)) (n:=0) (r:=(s,((a':Nat):Int),false)) (R:=(k,fr,to,sq,wh,ki,ks,ep,bo,ak,tk,tn,gd)) (l:=[]) rfl
   rw [Int.natCast_zero] at lst
   unfold rS lay at lst
   simp only at lst
   unfold rBod rS lay
   simp -implicitDefEqProofs only [q1,q2,gg,nq,h2,eq_self,xs]
   rw [loopX_eq,lst,ww]
  ·simp only [pN,List.append_assoc] at he
   exact h1 _ _ ⟨by omega,by have:=hy.1; omega⟩ he
theorem tBod_step {v11:Int×(RS×(REC×(List NW×List KW)))} {v32:Int×RS} {c n:Nat} {r r':RS} {R:REC} {l:List KW} {x:KW} (hn:v32.1=((n:Nat):Int)) (hc:c < n) (hn2:n≤100) (hl:l.length≤100) (h:rKnow r=some (r',x)) :
  tBod v11 v32 (((c:Nat):Int),r,R,l)=some (.inl (((c+1:Nat):Int),r',R,l++[x])):=by
 have q1:((c:Nat):Int) < v32.1:=by rw [hn]; omega
 have ww:=w1 (show c≤9223372036854775806 by omega)
 have b1:((l.length+1:Nat):Int) * 16≤70368744177664:=by omega
 have b2:((l.length+1:Nat):Int)≤70368744177664:=by omega
 have b3:¬ l.length+1≤l.length:=by omega
 unfold tBod
 simp -implicitDefEqProofs only [q1,h,b1,b2,b3,ww,eq_self,xs]
theorem tBod_last {v11:Int×(RS×(REC×(List NW×List KW)))} {v32:Int×RS} {n:Nat} {r:RS} {R:REC} {l:List KW} (hn:v32.1=((n:Nat):Int)) :
  tBod v11 v32 (((n:Nat):Int),r,R,l)=some (.inr (.inl (IntKind.wrap .i64 (v11.1+1),r,R,v11.2.2.2.1,l))):=by
 have q1:¬ ((n:Nat):Int) < v32.1:=by rw [hn]; omega
 unfold tBod
 simp -implicitDefEqProofs only [q1,eq_self,xs]
theorem step7 {L:List Nat} {s:ByteArray} (hs:FitS s) {i a:Nat} {ok:Bool} {m:MB} (hL:L[i]?=some 7) (hi:i≤100) (ha:a≤s.size) (b:BdM m) (hz:fEq m zeroM 7):Steps L s i 7 a ok m:=by
 obtain ⟨k,fr,to,sq,wh,ki,ks,nw,tb,ep,bo,ak,tk,tn,gd⟩:=m
 have q1:((i:Nat):Int) < (((L.map litN).length:Nat):Int):=by
  rw [List.length_map]
  have:=(List.getElem?_eq_some_iff.1 hL).1
  omega
 have q2:(0:Int)≤((i:Nat):Int):=by omega
 have gg:(L.map litN)[i]?=some (litN 7):=by rw [List.getElem?_map,hL]; rfl
 have ww:=w1 (show i≤9223372036854775806 by omega)
 simp only [litN] at gg
 obtain rfl:tb=[]:=hz
 rcases many_rd hs ha (n:=64) (by omega) with ⟨x,a',hx,h1,h2,h3⟩ | ⟨h1,a',h4,h2⟩
 ·obtain ⟨n,rfl⟩:∃ n:Nat,x=n:=⟨x.toNat,by omega⟩
  have key:=many_loop (s:=s) (f:=tBod (rS i s a ok (k,fr,to,sq,wh,ki,ks,nw,[],ep,bo,ak,tk,tn,gd)) (((n:Nat):Int),s,((a':Nat):Int),ok)) (mk:=fun c a ok l=>(((c:Nat):Int),(s,((a:Nat):Int),ok),(k,fr,to,sq,wh,ki,ks,ep,bo,ak,tk,tn,gd),l)) (e:=tabO) (P:=KnR) (n:=n) (B:=64)
   (fin:=fun a ok l=>.inl (IntKind.wrap .i64 (((i:Nat):Int)+1),(s,((a:Nat):Int),ok),(k,fr,to,sq,wh,ki,ks,ep,bo,ak,tk,tn,gd),nw,l))
   (fun c a ok l hc ha hl=>by
    rcases know_rd hs ha with ⟨x,b,p1,p2,p3,p4⟩ | ⟨p1,x,b,p2,p3⟩
    ·exact .inl ⟨x,b,p1,p2,p3,tBod_step rfl hc (by omega) (by omega) (p4 ok)⟩
    ·exact .inr ⟨p1,x,b,p2,tBod_step rfl hc (by omega) (by omega) (p3 ok)⟩)
   (fun a ok l=>tBod_last rfl)
   (fun x y r t=>tab_pre) n 0 a' ok [] (by omega) h1 (by simp; omega)
  obtain ⟨a2,ok2,l,e1,e2,e3,e4,e5⟩:=key
  rw [List.nil_append] at e1
  refine ⟨a2,ok2,(k,fr,to,sq,wh,ki,ks,nw,l,ep,bo,ak,tk,tn,gd),?_,e2,⟨b.nw,by show l.length≤64; omega,b.tk⟩,by refine ⟨rfl,rfl,rfl,fun i hi hn=>?_⟩; rcases le10 hi with rfl | rfl | rfl | rfl | rfl | rfl | rfl | rfl | rfl | rfl | rfl<;>first | exact absurd rfl hn | exact rfl | exact ⟨rfl,rfl⟩,e5,?_⟩
  ·have e1':=e1
   unfold rS lay at e1'
   simp only at e1'
   unfold rBod rS lay
   simp -implicitDefEqProofs only [q1,q2,gg,nq,h3,eq_self,xs]
   rw [Int.natCast_zero] at e1'
   rw [e1',ww]
  ·rcases e4 with ⟨g1,g2,g3⟩ | ⟨g1,g2⟩
   ·refine .inl ⟨g1,⟨by show l.length≤_; omega,g2⟩,?_⟩
    show _=(numU ((l.length:Nat):Int)++l.flatMap tabO)++_
    rw [List.append_assoc,h2,e3,g3]
   ·refine .inr ⟨fun y r hy he=>?_,.inl g2⟩
    simp only [pN,List.append_assoc] at he
    rw [h2] at he
    obtain ⟨q,he⟩:=numU_pre (by omega) (by omega) he
    exact g1 _ r (by omega) hy.2 he
 ·refine ⟨a',false,(k,fr,to,sq,wh,ki,ks,nw,[],ep,bo,ak,tk,tn,gd),?_,h4,⟨b.nw,b.tb,b.tk⟩,by refine ⟨rfl,rfl,rfl,fun i hi hn=>?_⟩; rcases le10 hi with rfl | rfl | rfl | rfl | rfl | rfl | rfl | rfl | rfl | rfl | rfl<;>first | exact absurd rfl hn | exact rfl | exact ⟨rfl,rfl⟩,fun _=>rfl,.inr ⟨fun y r hy he=>?_,.inl rfl⟩⟩
  ·have lst:=tBod_last (v11:=rS i s a ok (k,fr,to,sq,wh,ki,ks,nw,[],ep,bo,ak,tk,tn,gd)) (v32:=((0:Int),s,((a':Nat):Int),false)) (n:=0) (r:=(s,((a':Nat):Int),false)) (R:=(k,fr,to,sq,wh,ki,ks,ep,bo,ak,tk,tn,gd)) (l:=[]) rfl
   rw [Int.natCast_zero] at lst
   unfold rS lay at lst
   simp only at lst
   unfold rBod rS lay
   simp -implicitDefEqProofs only [q1,q2,gg,nq,h2,eq_self,xs]
   rw [loopX_eq,lst,ww]
  ·simp only [pN,List.append_assoc] at he
   exact h1 _ _ ⟨by omega,by have:=hy.1; omega⟩ he
end Go.Proofs.Ytgbcankkfmhcoaa.VL
end
section
namespace Go.Proofs.Ytgbcankkfmhcoaa.VL
open Go
set_option linter.unusedVariables false
set_option linter.unusedSectionVars false
set_option linter.unusedSimpArgs false
set_option maxRecDepth 100000
variable [Val]
theorem step_any {L:List Nat} {s:ByteArray} (hs:FitS s) {i j a:Nat} {ok:Bool} {m:MB} (hL:L[i]?=some j) (hj:j≤10) (hi:i≤100) (ha:a≤s.size) (b:BdM m) (hz:fEq m zeroM j):Steps L s i j a ok m:=by
 rcases le10 hj with rfl | rfl | rfl | rfl | rfl | rfl | rfl | rfl | rfl | rfl | rfl
 ·exact step0 hs hL hi ha b hz
 ·exact step1 hs hL hi ha b hz
 ·exact step2 hs hL hi ha b hz
 ·exact step3 hs hL hi ha b hz
 ·exact step4 hs hL hi ha b hz
 ·exact step5 hs hL hi ha b hz
 ·exact step6 hs hL hi ha b hz
 ·exact step7 hs hL hi ha b hz
 ·exact step8 hs hL hi ha b hz
 ·exact step9 hs hL hi ha b hz
 ·exact step10 hs hL hi ha b hz
theorem fEq_symm {m n:MB} {j:Nat} (h:fEq m n j):fEq n m j:=by
 match j,h with
 | 0,h | 1,h | 2,h | 3,h | 4,h | 6,h | 7,h | 8,h | 9,h=>exact Eq.symm h
 | 5,h=>exact ⟨h.1.symm,h.2.symm⟩
 | j+10,h=>exact Eq.symm h
theorem fEq_trans {m n p:MB} {j:Nat} (h:fEq m n j) (k:fEq n p j):fEq m p j:=by
 match j,h,k with
 | 0,h,k | 1,h,k | 2,h,k | 3,h,k | 4,h,k | 6,h,k | 7,h,k | 8,h,k | 9,h,k=>exact Eq.trans h k
 | 5,h,k=>exact ⟨h.1.trans k.1,h.2.trans k.2⟩
 | j+10,h,k=>exact Eq.trans h k
theorem pN_congr {m n:MB} {j:Nat} (h:fEq m n j):pN m j=pN n j:=by
 match j,h with
 | 0,h | 1,h | 2,h | 3,h | 4,h | 6,h | 7,h | 8,h=>simp only [pN]; simp only [fEq] at h; rw [h]
 | 5,h=>simp only [pN]; rw [h.1,h.2]
 | 9,h =>
  simp only [pN]; simp only [fEq] at h
  rw [← toList_len,← toList_len,h]
 | j+10,h=>simp only [pN]; simp only [fEq] at h; rw [h]
theorem Rng_congr {m n:MB} {j:Nat} (h:fEq m n j) (r:Rng n j):Rng m j:=by
 match j,h,r with
 | 0,h,r | 1,h,r | 2,h,r | 3,h,r | 4,h,r | 6,h,r | 7,h,r | 8,h,r=>simp only [Rng] at r ⊢; simp only [fEq] at h; rw [h]; exact r
 | 5,h,r=>simp only [Rng] at r ⊢; rw [h.1,h.2]; exact r
 | 9,h,r =>
  simp only [Rng] at r ⊢; simp only [fEq] at h
  rw [← toList_len,h,toList_len]; exact r
 | j+10,h,r=>trivial
theorem rng_pre {m n:MB} {j:Nat} (gm:Rng m j) (gn:Rng n j) {r s:List UInt8} (h:pN m j++r=pN n j++s):fEq m n j∧r=s:=by
 match j,gm,gn,h with
 | 0,gm,gn,h | 1,gm,gn,h | 2,gm,gn,h | 3,gm,gn,h | 4,gm,gn,h | 8,gm,gn,h=>exact numU_pre gm.1 gn.1 h
 | 5,gm,gn,h =>
  obtain ⟨h1,h2⟩:=tab_pre gm gn (r:=r) (t:=s) h
  exact ⟨⟨(Prod.mk.inj h1).1,(Prod.mk.inj h1).2⟩,h2⟩
 | 6,gm,gn,h =>
  simp only [pN,List.append_assoc] at h
  obtain ⟨h1,h2⟩:=numU_pre (by omega) (by omega) h
  exact list_pre (fun x hx y hy r s hh=>new_pre (gm.2 x hx) (gn.2 y hy) hh) (by omega) h2
 | 7,gm,gn,h =>
  simp only [pN,List.append_assoc] at h
  obtain ⟨h1,h2⟩:=numU_pre (by omega) (by omega) h
  exact list_pre (fun x hx y hy r s hh=>tab_pre (gm.2 x hx) (gn.2 y hy) hh) (by omega) h2
 | 9,gm,gn,h =>
  simp only [pN,List.append_assoc] at h
  obtain ⟨h1,h2⟩:=numU_pre (by omega) (by omega) h
  exact List.append_inj h2 (by rw [toList_len,toList_len]; omega)
 | j+10,gm,gn,h =>
  simp only [pN] at h
  obtain ⟨h1,h2⟩:=numU_pre (by split<;>omega) (by split<;>omega) h
  refine ⟨?_,h2⟩
  show m.2.2.2.2.2.2.2.2.2.2.2.2.2.2=n.2.2.2.2.2.2.2.2.2.2.2.2.2.2
  revert h1
  generalize m.2.2.2.2.2.2.2.2.2.2.2.2.2.2=b
  generalize n.2.2.2.2.2.2.2.2.2.2.2.2.2.2=c
  cases b<;>cases c<;>simp
theorem rng_pres {m n:MB}:∀ {L:List Nat} {r s:List UInt8},(∀ j ∈ L,Rng m j)→(∀ j ∈ L,Rng n j)→L.flatMap (pN m)++r=L.flatMap (pN n)++s→(∀ j ∈ L,fEq m n j)∧r=s
 | [],r,s,_,_,h=>⟨fun j hj=>by simp at hj,by simpa using h⟩
 | a::L,r,s,gm,gn,h=>by
  rw [List.flatMap_cons,List.flatMap_cons,List.append_assoc,List.append_assoc] at h
  obtain ⟨h1,h2⟩:=rng_pre (gm a (by simp)) (gn a (by simp)) h
  obtain ⟨h3,h4⟩:=rng_pres (fun j hj=>gm j (by simp [hj])) (fun j hj=>gn j (by simp [hj])) h2
  exact ⟨fun j hj=>by
   rcases List.mem_cons.1 hj with rfl | hj
   ·exact h1
   ·exact h3 j hj,h4⟩
theorem loop_rd {L:List Nat} {s:ByteArray} (hs:FitS s) (hL:L.length≤100) (hj:∀ j ∈ L,j≤10):∀ (d i a:Nat) (ok:Bool) (m:MB),i+d=L.length→(L.drop i).Nodup→a≤s.size→BdM m→(∀ j ∈ L.drop i,fEq m zeroM j) →
    ∃ (a':Nat) (ok':Bool) (m':MB),loopX (rBod (L.map litN)) (rS i s a ok m)=some ((s,((a':Nat):Int),ok'),lay m')∧a'≤s.size∧BdM m'∧(m'.1=m.1∧m'.2.1=m.2.1∧m'.2.2.1=m.2.2.1) ∧
      (∀ j,j≤10→j ∉ L.drop i→fEq m' m j)∧(ok=false→ok'=false) ∧
      ((ok'=ok∧(∀ j ∈ L.drop i,Rng m' j)∧dr s a=(L.drop i).flatMap (pN m')++dr s a') ∨
       ((∀ (x:MB) r,(∀ j ∈ L.drop i,Rng x j)→dr s a≠(L.drop i).flatMap (pN x)++r)∧(ok'=false∨m'.2.2.2.2.2.2.2.2.2.2.2.1 < 0))):=by
  intro d
  induction d with
  | zero =>
    intro i a ok m h1 h2 h3 h4 h5
    have hd:L.drop i=[]:=List.drop_eq_nil_of_le (by omega)
    rw [hd]
    refine ⟨a,ok,m,?_,h3,h4,⟨rfl,rfl,rfl⟩,fun j _ _=>fEq_refl m j,fun h=>h,.inl ⟨rfl,fun j hj=>by simp at hj,rfl⟩⟩
    have q1:¬ ((i:Nat):Int) < (((L.map litN).length:Nat):Int):=by rw [List.length_map]; omega
    rw [loopX_eq]
    have:rBod (L.map litN) (rS i s a ok m)=some (.inr ((s,((a:Nat):Int),ok),lay m)):=by
      unfold rBod rS lay
      simp -implicitDefEqProofs only [q1,eq_self,xs]
    rw [this]
  | succ d ih =>
    intro i a ok m h1 h2 h3 h4 h5
    have hlt:i < L.length:=by omega
    have hd:L.drop i=L[i]::L.drop (i+1):=List.drop_eq_getElem_cons hlt
    have hg:L[i]?=some L[i]:=List.getElem?_eq_getElem hlt
    have hj10:=hj L[i] (List.getElem_mem hlt)
    rw [hd] at h2 h5 ⊢
    generalize L[i]=j at *
    obtain ⟨hnj,hnd⟩:=List.nodup_cons.1 h2
    obtain ⟨a1,ok1,m1,e1,o1,o2,⟨o3,o4,o5,o6⟩,o7,o8⟩:=step_any (ok:=ok) hs hg hj10 (by omega) h3 h4 (h5 j (by simp))
    obtain ⟨a',ok',m',f1,f2,f3,⟨f4,f5,f6⟩,f7,f8,f9⟩:=ih (i+1) a1 ok1 m1 (by omega) hnd o1 o2 (fun x hx=>by
      have hx10:x≤10:=hj x (List.mem_of_mem_drop hx)
      exact fEq_trans (o6 x hx10 (fun e=>hnj (e ▸ hx))) (h5 x (by simp [hx])))
    have hm1:fEq m' m1 j:=f7 j hj10 hnj
    refine ⟨a',ok',m',?_,f2,f3,⟨f4.trans o3,f5.trans o4,f6.trans o5⟩,fun x hx hn=>?_,fun h=>f8 (o7 h),?_⟩
    · rw [loopX_eq,e1]; exact f1
    · have hn1:x≠j:=fun e=>hn (by simp [e])
      have hn2:x ∉ L.drop (i+1):=fun e=>hn (by simp [e])
      exact fEq_trans (f7 x hx hn2) (o6 x hx hn1)
    · rcases o8 with ⟨p1,p2,p3⟩ | ⟨p1,p2⟩
      · rcases f9 with ⟨g1,g2,g3⟩ | ⟨g1,g2⟩
        · refine .inl ⟨g1.trans p1,fun x hx=>?_,?_⟩
          · rcases List.mem_cons.1 hx with rfl | hx
            · exact Rng_congr hm1 p2
            · exact g2 x hx
          · rw [p3,g3,List.flatMap_cons,List.append_assoc,pN_congr hm1]
        · refine .inr ⟨fun x r hx he=>?_,g2⟩
          rw [p3,List.flatMap_cons,List.append_assoc] at he
          obtain ⟨_,he⟩:=rng_pre p2 (hx j (by simp)) he
          exact g1 x r (fun z hz=>hx z (by simp [hz])) he
      · refine .inr ⟨fun x r hx he=>?_,?_⟩
        · rw [List.flatMap_cons,List.append_assoc] at he
          exact p1 x _ (hx j (by simp)) he
        · rcases p2 with p2 | ⟨rfl,p2⟩
          · exact .inl (f8 p2)
          · right
            have:m'.2.2.2.2.2.2.2.2.2.2.2.1=m1.2.2.2.2.2.2.2.2.2.2.2.1:=hm1
            rw [this]; exact p2
end Go.Proofs.Ytgbcankkfmhcoaa.VL
end
section
namespace Go.Proofs.Ytgbcankkfmhcoaa.VL
open Go
set_option linter.unusedVariables false
set_option linter.unusedSectionVars false
set_option linter.unusedSimpArgs false
set_option maxRecDepth 100000
variable [Val]
def hasL (k:Int):List Nat:=if 1≤k∧k≤12 then hasN k else []
theorem hasL_ok (k:Int):F24 k=some ((hasL k).map litN)∧(hasL k).length≤5∧(∀ j ∈ hasL k,j≤10)∧(hasL k).Nodup:=by
 unfold hasL
 by_cases h:1≤k∧k≤12
 ·rw [if_pos h]
  obtain ⟨h1,h2,h3⟩:=has_ok h
  refine ⟨h1,h2,h3,?_⟩
  rcases kinds h with rfl | rfl | rfl | rfl | rfl | rfl | rfl | rfl | rfl | rfl | rfl | rfl<;>decide
 ·rw [if_neg h]
  refine ⟨?_,by simp,fun j hj=>by simp at hj,List.nodup_nil⟩
  rw [F24_eq]
  have e:∀ c:Int,1≤c→c≤12→(k==c)=false:=by
   intro c h1 h2
   rw [beq_eq_false_iff_ne]; omega
  simp only [e 1 (by omega) (by omega),e 2 (by omega) (by omega),e 3 (by omega) (by omega),e 4 (by omega) (by omega),e 5 (by omega) (by omega),e 6 (by omega) (by omega),e 7 (by omega) (by omega),e 8 (by omega) (by omega),e 9 (by omega) (by omega),e 10 (by omega) (by omega),e 11 (by omega) (by omega),e 12 (by omega) (by omega),cond_false,List.map_nil]
abbrev SmR (x:Int):Prop:=0≤x∧x≤1048576
theorem head_rd {s:ByteArray} (hs:FitS s) :
  ∃ (k fr to:Int) (a:Nat) (ok:Bool),a≤s.size∧(∃ r1 r2,rSmall (s,((0:Nat):Int),true)=some (k,r1)∧rSmall r1=some (fr,r2)∧rSmall r2=some (to,s,((a:Nat):Int),ok)) ∧
   ((ok=true∧SmR k∧SmR fr∧SmR to∧s.toList=(numU k++(numU fr++numU to))++dr s a)∨(ok=false∧∀ (k fr to:Int) r,SmR k→SmR fr→SmR to→s.toList≠(numU k++(numU fr++numU to))++r)):=by
 have en:∀ (k fr to:Int) (r:List UInt8),(numU k++(numU fr++numU to))++r=numU k++(numU fr++(numU to++r)):=by
  intro k fr to r; simp only [List.append_assoc]
 have d0:s.toList=dr s 0:=rfl
 rcases small_rd hs (a:=0) (Nat.zero_le _) with ⟨k,a1,hk,h1,h2,h3⟩ | ⟨h1,a1,h2,h3⟩
 ·rcases small_rd hs h1 with ⟨fr,a2,hf,k1,k2,k3⟩ | ⟨k1,a2,k2,k3⟩
  ·rcases small_rd hs k1 with ⟨to,a3,ht,l1,l2,l3⟩ | ⟨l1,a3,l2,l3⟩
   ·exact ⟨k,fr,to,a3,true,l1,⟨_,_,h3 true,k3 true,l3 true⟩,.inl ⟨rfl,hk,hf,ht,by rw [en,d0,h2,k2,l2]⟩⟩
   ·refine ⟨k,fr,0,a3,false,l2,⟨_,_,h3 true,k3 true,l3 true⟩,.inr ⟨rfl,fun k' fr' to' r p q t he=>?_⟩⟩
    rw [en,d0,h2] at he
    obtain ⟨_,he⟩:=numU_pre hk.1 p.1 he
    rw [k2] at he
    obtain ⟨_,he⟩:=numU_pre hf.1 q.1 he
    exact l1 _ _ t he
  ·rcases small_rd hs k2 with ⟨to,a3,ht,l1,l2,l3⟩ | ⟨l1,a3,l2,l3⟩
   ·refine ⟨k,0,to,a3,false,l1,⟨_,_,h3 true,k3 true,l3 false⟩,.inr ⟨rfl,fun k' fr' to' r p q t he=>?_⟩⟩
    rw [en,d0,h2] at he
    obtain ⟨_,he⟩:=numU_pre hk.1 p.1 he
    exact k1 _ _ q he
   ·refine ⟨k,0,0,a3,false,l2,⟨_,_,h3 true,k3 true,l3 false⟩,.inr ⟨rfl,fun k' fr' to' r p q t he=>?_⟩⟩
    rw [en,d0,h2] at he
    obtain ⟨_,he⟩:=numU_pre hk.1 p.1 he
    exact k1 _ _ q he
 ·have bad:∀ (k fr to:Int) r,SmR k→SmR fr→SmR to→s.toList≠(numU k++(numU fr++numU to))++r:=by
   intro k fr to r p q t he
   rw [en] at he
   exact h1 _ _ p he
  rcases small_rd hs h2 with ⟨fr,a2,hf,k1,k2,k3⟩ | ⟨k1,a2,k2,k3⟩
  ·rcases small_rd hs k1 with ⟨to,a3,ht,l1,l2,l3⟩ | ⟨l1,a3,l2,l3⟩
   ·exact ⟨0,fr,to,a3,false,l1,⟨_,_,h3 true,k3 false,l3 false⟩,.inr ⟨rfl,bad⟩⟩
   ·exact ⟨0,fr,0,a3,false,l2,⟨_,_,h3 true,k3 false,l3 false⟩,.inr ⟨rfl,bad⟩⟩
  ·rcases small_rd hs k2 with ⟨to,a3,ht,l1,l2,l3⟩ | ⟨l1,a3,l2,l3⟩
   ·exact ⟨0,0,to,a3,false,l1,⟨_,_,h3 true,k3 false,l3 false⟩,.inr ⟨rfl,bad⟩⟩
   ·exact ⟨0,0,0,a3,false,l2,⟨_,_,h3 true,k3 false,l3 false⟩,.inr ⟨rfl,bad⟩⟩
theorem Rng_zero (j:Nat):Rng zeroM j:=by
 match j with
 | 0 | 1 | 2 | 3=>exact ⟨by decide,by decide⟩
 | 4 | 8=>exact ⟨by decide,by decide⟩
 | 5=>exact ⟨⟨by decide,by decide⟩,by decide,by decide⟩
 | 6=>exact ⟨by decide,fun x hx=>by simp [zeroM] at hx⟩
 | 7=>exact ⟨by decide,fun x hx=>by simp [zeroM] at hx⟩
 | 9=>show (ByteArray.mk #[]).size≤200; decide
 | j+10=>trivial
theorem giv_of_rng {m:MB} (h:∀ j,j≤10→Rng m j):Giv m :=
 ⟨h 0 (by omega),(h 5 (by omega)).1,fun x hx=>((h 6 (by omega)).2 x hx).2.1,fun x hx=>((h 7 (by omega)).2 x hx).1,h 1 (by omega),h 2 (by omega),h 3 (by omega)⟩
theorem rng_of {m:MB} (g:Giv m) (h:May m) (j:Nat):Rng m j:=by
 match j with
 | 0=>exact g.sq
 | 1=>exact g.ep
 | 2=>exact g.bo
 | 3=>exact g.tn
 | 4=>exact ⟨h.rwh.1,by have:=h.rwh; omega⟩
 | 5=>exact ⟨g.ki,h.rks.1,by have:=h.rks; omega⟩
 | 6=>exact ⟨h.rnw.1,fun x hx=>⟨⟨(h.rnw.2 x hx).1.1,by have:=(h.rnw.2 x hx).1; omega⟩,g.nw x hx,(h.rnw.2 x hx).2.1,by have:=(h.rnw.2 x hx).2; omega⟩⟩
 | 7=>exact ⟨h.rtb.1,fun x hx=>⟨g.tb x hx,(h.rtb.2 x hx).1,by have:=h.rtb.2 x hx; omega⟩⟩
 | 8=>exact ⟨h.rak.1,by have:=h.rak; omega⟩
 | 9=>show _≤200; have:=h.rtk; omega
 | j+10=>trivial
theorem all_fEq {m n:MB} (h0:m.1=n.1∧m.2.1=n.2.1∧m.2.2.1=n.2.2.1) (h:∀ j,j≤10→fEq m n j):m=n:=by
 obtain ⟨k,fr,to,sq,wh,ki,ks,nw,tb,ep,bo,ak,tk,tn,gd⟩:=m
 obtain ⟨k',fr',to',sq',wh',ki',ks',nw',tb',ep',bo',ak',tk',tn',gd'⟩:=n
 obtain ⟨a1,a2,a3⟩:=h0
 have e0:=h 0 (by omega)
 have e1:=h 1 (by omega)
 have e2:=h 2 (by omega)
 have e3:=h 3 (by omega)
 have e4:=h 4 (by omega)
 have e5:=h 5 (by omega)
 have e6:=h 6 (by omega)
 have e7:=h 7 (by omega)
 have e8:=h 8 (by omega)
 have e9:=h 9 (by omega)
 have e10:=h 10 (by omega)
 simp only [fEq] at a1 a2 a3 e0 e1 e2 e3 e4 e5 e6 e7 e8 e9 e10
 have e9:=toList_inj e9
 subst a1 a2 a3 e0 e1 e2 e3 e4 e6 e7 e8 e9 e10
 obtain ⟨rfl,rfl⟩:=e5
 rfl
theorem may_zero {m:MB} (h:May m) {j:Nat} (hj:j≤10) (hn:j ∉ hasN m.1):fEq m zeroM j:=by
 obtain ⟨i0,i1,i2,i3,i4,i5,i6,i7,i8,i8',i9⟩:=in_has h.k
 have no:∀ {b:Bool} {n:Nat},(b=true→n ∈ hasN m.1)→n ∉ hasN m.1→b=false:=by
  intro b n f g
  cases b
  ·rfl
  ·exact absurd (f rfl) g
 rcases le10 hj with rfl | rfl | rfl | rfl | rfl | rfl | rfl | rfl | rfl | rfl | rfl
 ·exact h.sq (no i0 hn)
 ·exact h.ep (no i5 hn)
 ·exact h.bo (no i6 hn)
 ·exact h.tn (no i8' hn)
 ·exact h.wh (no i1 hn)
 ·exact ⟨h.ki (no i2 hn),h.ks (no i2 hn)⟩
 ·exact h.nw (no i3 hn)
 ·exact h.tb (no i4 hn)
 ·exact h.ak (no i7 hn)
 ·show m.2.2.2.2.2.2.2.2.2.2.2.2.1.toList=(ByteArray.mk #[]).toList
  rw [h.tk (no i8 hn),toList_data]
 ·exact h.gd (no i9 hn)
theorem lay_full {m:MB}:((lay m).1.1,(lay m).1.2.1,(lay m).1.2.2.1,(lay m).1.2.2.2.1,(lay m).1.2.2.2.2.1,(lay m).1.2.2.2.2.2.1,(lay m).1.2.2.2.2.2.2.1,(List.take (lay m).2.1.length (lay m).2.1),(List.take (lay m).2.2.length (lay m).2.2),(lay m).1.2.2.2.2.2.2.2.1,(lay m).1.2.2.2.2.2.2.2.2.1,(lay m).1.2.2.2.2.2.2.2.2.2.1,(lay m).1.2.2.2.2.2.2.2.2.2.2.1,(lay m).1.2.2.2.2.2.2.2.2.2.2.2.1,(lay m).1.2.2.2.2.2.2.2.2.2.2.2.2)=m:=by
 obtain ⟨k,fr,to,sq,wh,ki,ks,nw,tb,ep,bo,ak,tk,tn,gd⟩:=m
 simp only [lay,List.take_length]
theorem F18_ok {s:ByteArray} (hs:FitS s) :
  ((openE s.toList).2≠0→F18 s=some (zeroM,(openE s.toList).2)) ∧
  ((openE s.toList).2=0→(∃ m:MB,Giv m∧msgB m=true∧(openE s.toList).1=bodO m∧F18 s=some (m,0))∨((∀ m:MB,Giv m→msgB m=true→(openE s.toList).1≠bodO m)∧F18 s=some (zeroM,2))):=by
 have f38:=F38_ok hs
 constructor
 ·intro h
  rw [F18_r,f38]
  have q:((openE s.toList).2 != 0)=true:=by simpa using h
  simp only [Option.bind_some,q,cond_true]
  rfl
 ·intro h
  rw [h] at f38
  have hl:=toList_len s
  have hlen:(openE s.toList).1.length≤s.size:=by
   unfold openE
   split
   ·simp
   ·split
    ·simp
    ·split
     ·rw [List.length_take]; omega
     ·simp
  generalize (openE s.toList).1=l at *
  have hb:FitS (mkB l):=by
   show (mkB l).size≤_
   rw [mkB_size]
   have:s.size≤_:=hs
   omega
  obtain ⟨k,fr,to,a,ok,ha,⟨r1,r2,g1,g2,g3⟩,hh⟩:=head_rd hb
  obtain ⟨hk1,hk2,hk3,hk4⟩:=hasL_ok k
  obtain ⟨a',ok',m',e1,e2,e3,⟨e4,e5,e6⟩,e7,e8,e9⟩:=loop_rd (L:=hasL k) hb (by omega) hk3 (hasL k).length 0 a ok (k,fr,to,0,0,0,0,[],[],0,0,0,ByteArray.mk #[],0,false) (by omega) hk4 ha ⟨Nat.zero_le _,Nat.zero_le _,by show (ByteArray.mk #[]).size≤200; decide⟩ (fun j hj=>by
   match j with
   | 0 | 1 | 2 | 3 | 4 | 6 | 7 | 8 | 9=>rfl
   | 5=>exact ⟨rfl,rfl⟩
   | j+10=>rfl)
  rw [Int.natCast_zero] at g1
  unfold rS at e1
  rw [Int.natCast_zero] at e1
  have z0:∀ j,j≤10→j ∉ hasL k→fEq m' zeroM j:=fun j h1 h2=>by
   refine fEq_trans (e7 j h1 h2) ?_
   rcases le10 h1 with rfl | rfl | rfl | rfl | rfl | rfl | rfl | rfl | rfl | rfl | rfl<;>first | exact rfl | exact ⟨rfl,rfl⟩
  have c:=check_ok m' (by have:=e3.nw; omega) (by have:=e3.tb; omega) (by have:=e3.tk; unfold maxLen; omega)
  have e1L:loopX (rBod (List.map litN (hasL k))) ((0:Int),(mkB l,((a:Nat):Int),ok),(k,fr,to,0,0,0,0,0,0,0,ByteArray.mk #[],0,false),[],[])=some ((mkB l,((a':Nat):Int),ok'),lay m'):=e1
  clear e1
  have ln:∀ n:Nat,0+n≤n:=fun n=>by omega
  have hsz:(mkB l).toList.length=(mkB l).size:=toList_len _
  have hv:F18 s=some (if ok'=true∧a'=(mkB l).size∧msgB m'=true then (m',0) else (zeroM,2)):=by
   rw [F18_r,f38]
   simp only [Option.bind_some,nz0,cond_false,g1,g2,g3,hk1,e1L,ln,decide_true,cond_true,lay_full,c]
   cases ok'
   ·rfl
   ·by_cases q:a'=(mkB l).size
    ·have q1:((((a':Nat):Int)) != (((mkB l).size:Nat):Int))=false:=by rw [q]; simp
     rw [q1]
     cases hm:msgB m'
     ·have e:¬ (true=true∧a'=(mkB l).size∧false=true):=fun h=>by simp at h
      rw [if_neg e]; rfl
     ·have e:true=true∧a'=(mkB l).size∧true=true:=⟨rfl,q,rfl⟩
      rw [if_pos e]; rfl
    ·have q1:((((a':Nat):Int)) != (((mkB l).size:Nat):Int))=true:=by rw [bne_iff_ne]; omega
     have e:¬ (true=true∧a'=(mkB l).size∧msgB m'=true):=fun h=>q h.2.1
     rw [q1,if_neg e]; rfl
  rw [hv]
  rw [mkB_toList] at hh
  have hz:∀ x:MB,bodO x=(numU x.1++(numU x.2.1++numU x.2.2.1))++(hasN x.1).flatMap (pN x):=fun x=>rfl
  have hkk:∀ x:MB,May x→hasN x.1=hasL x.1:=fun x hx=>by unfold hasL; rw [if_pos hx.k]
  have sm:∀ x:MB,May x→SmR x.1∧SmR x.2.1∧SmR x.2.2.1:=fun x hx=>by
   have h1:=hx.k
   have h2:=hx.fr
   have h3:=hx.to
   refine ⟨⟨?_,?_⟩,⟨?_,?_⟩,⟨?_,?_⟩⟩<;>omega
  simp only [List.drop_zero] at e9
  rcases hh with ⟨rfl,p1,p2,p3,p4⟩ | ⟨rfl,p1⟩
  ·rcases e9 with ⟨rfl,b1,b2⟩ | ⟨b1,b2⟩
   ·have rng:∀ j,j≤10→Rng m' j:=fun j hj=>by
     by_cases hin:j ∈ hasL k
     ·exact b1 j hin
     ·exact Rng_congr (z0 j hj hin) (Rng_zero j)
    by_cases hsz':a'=(mkB l).size
    ·have hd:dr (mkB l) a'=[]:=List.drop_eq_nil_of_le (by rw [hsz,hsz']; exact Nat.le_refl _)
     rw [hd,List.append_nil] at b2
     rw [b2] at p4
     cases hm:msgB m'
     ·right
      refine ⟨fun x gx mx he=>?_,by rw [if_neg (fun h=>by simp at h)]⟩
      have hx:=may_of mx
      rw [p4,hz] at he
      obtain ⟨s1,s2,s3⟩:=sm x hx
      simp only [List.append_assoc] at he
      obtain ⟨t1,he⟩:=numU_pre p1.1 s1.1 he
      obtain ⟨t2,he⟩:=numU_pre p2.1 s2.1 he
      obtain ⟨t3,he⟩:=numU_pre p3.1 s3.1 he
      rw [hkk x hx,← t1] at he
      obtain ⟨he,_⟩:=rng_pres (r:=[]) (s:=[]) b1 (fun j _=>rng_of gx hx j) (by rw [List.append_nil,List.append_nil]; exact he)
      have:m'=x:=all_fEq ⟨e4.trans t1,e5.trans t2,e6.trans t3⟩ (fun j hj=>by
       by_cases hin:j ∈ hasL k
       ·exact he j hin
       ·refine fEq_trans (z0 j hj hin) (fEq_symm (may_zero hx hj ?_))
        rw [hkk x hx,← t1]; exact hin)
      rw [this,mx] at hm
      cases hm
     ·left
      refine ⟨m',giv_of_rng rng,hm,?_,by rw [if_pos ⟨rfl,hsz',rfl⟩]⟩
      rw [hz,hkk m' (may_of hm),p4]
      have e4:m'.1=k:=e4
      have e5:m'.2.1=fr:=e5
      have e6:m'.2.2.1=to:=e6
      rw [e4,e5,e6]
    ·right
     refine ⟨fun x gx mx he=>?_,by rw [if_neg (fun h=>hsz' h.2.1)]⟩
     have hx:=may_of mx
     rw [p4,b2,hz] at he
     obtain ⟨s1,s2,s3⟩:=sm x hx
     simp only [List.append_assoc] at he
     obtain ⟨t1,he⟩:=numU_pre p1.1 s1.1 he
     obtain ⟨t2,he⟩:=numU_pre p2.1 s2.1 he
     obtain ⟨t3,he⟩:=numU_pre p3.1 s3.1 he
     rw [hkk x hx,← t1] at he
     obtain ⟨_,he⟩:=rng_pres (r:=dr (mkB l) a') (s:=[]) b1 (fun j _=>rng_of gx hx j) (by rw [List.append_nil]; exact he)
     have:=congrArg List.length he
     rw [List.length_drop,hsz] at this
     simp only [List.length_nil] at this
     omega
   ·right
    refine ⟨fun x gx mx he=>?_,?_⟩
    ·have hx:=may_of mx
     rw [p4,hz] at he
     obtain ⟨s1,s2,s3⟩:=sm x hx
     simp only [List.append_assoc] at he
     obtain ⟨t1,he⟩:=numU_pre p1.1 s1.1 he
     obtain ⟨t2,he⟩:=numU_pre p2.1 s2.1 he
     obtain ⟨t3,he⟩:=numU_pre p3.1 s3.1 he
     rw [hkk x hx,← t1] at he
     exact b1 x [] (fun j _=>rng_of gx hx j) (by rw [List.append_nil]; exact he)
    ·rw [if_neg]
     rintro ⟨h1,h2,h3⟩
     rcases b2 with b2 | b2
     ·rw [b2] at h1; cases h1
     ·have:=(may_of h3).rak; omega
  ·right
   refine ⟨fun x gx mx he=>?_,by rw [e8 rfl,if_neg (fun h=>by simp at h)]⟩
   have hx:=may_of mx
   obtain ⟨s1,s2,s3⟩:=sm x hx
   rw [hz] at he
   exact p1 _ _ _ _ s1 s2 s3 he
end Go.Proofs.Ytgbcankkfmhcoaa.VL
end
section
namespace Go.Proofs.Ytgbcankkfmhcoaa.VL
open Go
set_option linter.unusedVariables false
set_option linter.unusedSectionVars false
set_option linter.unusedSimpArgs false
set_option maxRecDepth 100000
variable [Val]
theorem bod_len {m:MB} (g:Giv m) (hm:msgB m=true):(bodO m).length≤1600:=by
 have h:=may_of hm
 have hP:=parO_len g h
 have a:=numU_len (x:=m.1) (by have:=h.k; omega)
 have b:=numU_len (x:=m.2.1) (by have:=h.fr; omega)
 have d:=numU_len (x:=m.2.2.1) (by have:=h.to; omega)
 unfold bodO heaO
 rw [List.length_append,List.length_append,List.length_append]; omega
theorem open_txt {m:MB} (g:Giv m) (hm:msgB m=true):openE (txtO m)=(bodO m,0):=by
 have hl:=bod_len g hm
 unfold txtO openE
 have h4:(four (crc (bodO m))).length=4:=rfl
 have e:(bodO m++four (crc (bodO m))).length - 4=(bodO m).length:=by rw [List.length_append]; omega
 rw [if_neg (by rw [List.length_append]; omega),if_neg (by rw [List.length_append]; omega),e,List.drop_left,List.take_left,if_pos rfl]
theorem bod_inj {m n:MB} (g:Giv m) (hm:msgB m=true) (g':Giv n) (hn:msgB n=true) (h:bodO m=bodO n):m=n :=
 same_eq (txt_same g (may_of hm) g' (may_of hn) (by unfold txtO; rw [h]))
theorem read_ok {m:MB} (g:Giv m) (hm:msgB m=true):F18 (mkB (txtO m))=some (m,0):=by
 have hl:=bod_len g hm
 have hs:FitS (mkB (txtO m)):=by
  show (mkB (txtO m)).size≤_
  rw [mkB_size]
  unfold txtO
  have h4:(four (crc (bodO m))).length=4:=rfl
  rw [List.length_append]; omega
 obtain ⟨_,h2⟩:=F18_ok hs
 rw [mkB_toList,open_txt g hm] at h2
 rcases h2 rfl with ⟨n,gn,hn,e,h3⟩ | ⟨h3,_⟩
 ·obtain rfl:=bod_inj g hm gn hn e
  exact h3
 ·exact absurd rfl (h3 m g hm)
theorem sameB_refl (m:MB):sameB m m=true:=by
 unfold sameB
 simp
theorem rsame_refl (m:MB) (hw:m.2.2.2.2.2.2.2.1.length≤1000) (ht:m.2.2.2.2.2.2.2.2.1.length≤1000):F14 (m,m)=some true:=by
 rw [rsame_eq,same_ok m m hw ht,sameB_refl]
theorem first_ok {m:MB} (hm:msgB m=true):(mkB (txtO m))[0]?=some (bI m.1)∧IntKind.wrap .i64 (((bI m.1).toNat:Nat):Int)=m.1∧(((mkB (txtO m)).size:Nat):Int) > 4:=by
 have hk:=(may_of hm).k
 have e:numU m.1=[bI m.1]:=by
  unfold numU numZ
  rw [hiZ_small (by omega),loZ_small (by omega)]
  have:((m.1.toNat:Nat):Int)=m.1:=by omega
  rw [this]; rfl
 have ht:txtO m=bI m.1::((numU m.2.1++numU m.2.2.1)++parO m++four (crc (bodO m))):=by
  unfold txtO
  conv=>lhs; arg 1; unfold bodO heaO
  rw [e]
  simp only [List.append_assoc,List.cons_append,List.nil_append]
 refine ⟨?_,?_,?_⟩
 ·have hl:0 < (mkB (txtO m)).toList.length:=by rw [mkB_toList,ht]; simp
  rw [ba_at hl]
  congr 1
  simp only [mkB_toList,ht,List.getElem_cons_zero]
 ·rw [bI_toNat,wi (by omega) (by omega)]; omega
 ·rw [mkB_size,ht,List.length_cons,List.length_append]
  have h4:(four (crc (bodO m))).length=4:=rfl
  omega
theorem mods {x:Int} (h0:0≤x) (h1:x≤255) (n:Int) (hn:1≤n∧n≤200):IntKind.wrap .i64 (Int.tmod x n)=x % n∧0≤x % n∧x % n < n:=by
 have e:Int.tmod x n=x % n:=Int.tmod_eq_emod_of_nonneg h0
 have a:=Int.emod_nonneg x (show n≠0 by omega)
 have b:=Int.emod_lt_of_pos x (show 0 < n by omega)
 rw [e,wi (by omega) (by omega)]
 exact ⟨rfl,a,b⟩
def least (k fr to:Int):MB:=(k,(fr,(to,(0,(0,(0,(0,([],((if k=5∨k=6 then [(0,0)] else []),(0,(0,(0,((if k ≥ 11 then ByteArray.mk #[97] else ByteArray.mk #[]),0,false)))))))))))))
theorem least_giv (k fr to:Int):Giv (least k fr to):=by
 have u0:U64 0:=⟨by decide,by decide⟩
 refine ⟨u0,u0,fun x hx=>by simp [least] at hx,fun x hx=>?_,u0,u0,u0⟩
 simp only [least] at hx
 split at hx
 ·rw [List.mem_singleton] at hx
  subst hx; exact u0
 ·simp at hx
theorem least_msg {k fr to:Int} (hk:1≤k∧k≤12) (hf:0≤fr∧fr≤63) (ht:0≤to∧to≤63):msgB (least k fr to)=!(fr==to):=by
 have n1:nodeB fr=true:=by unfold nodeB; simp; omega
 have n2:nodeB to=true:=by unfold nodeB; simp; omega
 have key:sameB (least k fr to) (bareM (least k fr to))=true∧partsB (least k fr to)=true:=by
  rcases kinds hk with rfl | rfl | rfl | rfl | rfl | rfl | rfl | rfl | rfl | rfl | rfl | rfl<;>exact ⟨by simp [least,sameB,bareM,kindB],by first | exact (by decide +kernel:partsB (least 1 0 0)=true) | exact (by decide +kernel:partsB (least 2 0 0)=true) | exact (by decide +kernel:partsB (least 3 0 0)=true) | exact (by decide +kernel:partsB (least 4 0 0)=true) | exact (by decide +kernel:partsB (least 5 0 0)=true) | exact (by decide +kernel:partsB (least 6 0 0)=true) | exact (by decide +kernel:partsB (least 7 0 0)=true) | exact (by decide +kernel:partsB (least 8 0 0)=true) | exact (by decide +kernel:partsB (least 9 0 0)=true) | exact (by decide +kernel:partsB (least 10 0 0)=true) | exact (by decide +kernel:partsB (least 11 0 0)=true) | exact (by decide +kernel:partsB (least 12 0 0)=true)⟩
 unfold msgB
 rw [key.1,key.2]
 show ((decide (1≤k)&&decide (k≤12))&&((nodeB fr&&nodeB to)&&(!(fr==to)&&(true&&true))))=_
 rw [n1,n2,decide_eq_true hk.1,decide_eq_true hk.2]
 simp
noncomputable def tail8 (v:Int×(Int×Int)) (v2:(Int×(Int×(Int×(Int×(Int×(Int×(Int×((List (Int×Int))×(Int×(Int×(Int×(ByteArray×(Int×Bool)))))))))))))):Option Bool:=((fun (v2:(Int×(Int×(Int×(Int×(Int×(Int×(Int×((List (Int×Int))×(Int×(Int×(Int×(ByteArray×(Int×Bool))))))))))))))=>(Option.bind (F10 (v2.1,v2.2.1,v2.2.2.1,v2.2.2.2.1,v2.2.2.2.2.1,v2.2.2.2.2.2.1,v2.2.2.2.2.2.2.1,[],v2.2.2.2.2.2.2.2.1,v2.2.2.2.2.2.2.2.2.1,v2.2.2.2.2.2.2.2.2.2.1,v2.2.2.2.2.2.2.2.2.2.2.1,v2.2.2.2.2.2.2.2.2.2.2.2.1,v2.2.2.2.2.2.2.2.2.2.2.2.2.1,v2.2.2.2.2.2.2.2.2.2.2.2.2.2)) (fun (v3:(ByteArray×Int))=>(cond ((IntKind.wrap IntKind.i64 (Int.tmod v.2.1 (64:Int)))==(IntKind.wrap IntKind.i64 (Int.tmod v.2.2 (64:Int)))) (cond (v3.2==(1:Int)) (cond ((ByteArray.toList v3.1)==(ByteArray.toList (ByteArray.mk #[]))) (Option.bind (F17 ()) (fun (v4:Bool)=>(some v4))) (some false)) (some false)) (Option.bind (F18 v3.1) (fun (v5:((Int×(Int×(Int×(Int×(Int×(Int×(Int×((List (Int×(Int×Int)))×((List (Int×Int))×(Int×(Int×(Int×(ByteArray×(Int×Bool))))))))))))))×Int))=>(cond (v3.2==(0:Int)) (cond (v5.2==(0:Int)) (Option.bind (F14 ((v5.1.1,v5.1.2.1,v5.1.2.2.1,v5.1.2.2.2.1,v5.1.2.2.2.2.1,v5.1.2.2.2.2.2.1,v5.1.2.2.2.2.2.2.1,v5.1.2.2.2.2.2.2.2.1,v5.1.2.2.2.2.2.2.2.2.1,v5.1.2.2.2.2.2.2.2.2.2.1,v5.1.2.2.2.2.2.2.2.2.2.2.1,v5.1.2.2.2.2.2.2.2.2.2.2.2.1,v5.1.2.2.2.2.2.2.2.2.2.2.2.2.1,v5.1.2.2.2.2.2.2.2.2.2.2.2.2.2.1,v5.1.2.2.2.2.2.2.2.2.2.2.2.2.2.2),v2.1,v2.2.1,v2.2.2.1,v2.2.2.2.1,v2.2.2.2.2.1,v2.2.2.2.2.2.1,v2.2.2.2.2.2.2.1,[],v2.2.2.2.2.2.2.2.1,v2.2.2.2.2.2.2.2.2.1,v2.2.2.2.2.2.2.2.2.2.1,v2.2.2.2.2.2.2.2.2.2.2.1,v2.2.2.2.2.2.2.2.2.2.2.2.1,v2.2.2.2.2.2.2.2.2.2.2.2.2.1,v2.2.2.2.2.2.2.2.2.2.2.2.2.2)) (fun (v6:Bool)=>(cond v6 (cond (decide ((((ByteArray.size v3.1):Nat):Int) > (4:Int))) (Option.bind v3.1[0]? (fun (v7:UInt8)=>(cond ((IntKind.wrap IntKind.i64 (((UInt8.toNat v7):Nat):Int))==v2.1) (Option.bind (F17 ()) (fun (v8:Bool)=>(some v8))) (some false)))) (some false)) (some false)))) (some false)) (some false))))))))) v2
theorem F8_t (v:Int×(Int×Int)):F8 v=(Option.bind (Option.bind (cond ((IntKind.wrap IntKind.i64 ((1:Int)+(IntKind.wrap IntKind.i64 (Int.tmod v.1 (12:Int)))))==(5:Int)) (some true) (some ((IntKind.wrap IntKind.i64 ((1:Int)+(IntKind.wrap IntKind.i64 (Int.tmod v.1 (12:Int)))))==(6:Int)))) (fun (v0:Bool)=>(cond v0 (some ((IntKind.wrap IntKind.i64 ((1:Int)+(IntKind.wrap IntKind.i64 (Int.tmod v.1 (12:Int))))),(IntKind.wrap IntKind.i64 (Int.tmod v.2.1 (64:Int))),(IntKind.wrap IntKind.i64 (Int.tmod v.2.2 (64:Int))),(0:Int),(0:Int),(0:Int),(0:Int),(((0:Int),(0:Int))::[]),(0:Int),(0:Int),(0:Int),(ByteArray.mk #[]),(0:Int),false)) (some ((IntKind.wrap IntKind.i64 ((1:Int)+(IntKind.wrap IntKind.i64 (Int.tmod v.1 (12:Int))))),(IntKind.wrap IntKind.i64 (Int.tmod v.2.1 (64:Int))),(IntKind.wrap IntKind.i64 (Int.tmod v.2.2 (64:Int))),(0:Int),(0:Int),(0:Int),(0:Int),[],(0:Int),(0:Int),(0:Int),(ByteArray.mk #[]),(0:Int),false))))) (fun (v1:(Int×(Int×(Int×(Int×(Int×(Int×(Int×((List (Int×Int))×(Int×(Int×(Int×(ByteArray×(Int×Bool))))))))))))))=>(Option.bind (cond (decide (v1.1 ≥ (11:Int))) (some (v1.1,v1.2.1,v1.2.2.1,v1.2.2.2.1,v1.2.2.2.2.1,v1.2.2.2.2.2.1,v1.2.2.2.2.2.2.1,v1.2.2.2.2.2.2.2.1,v1.2.2.2.2.2.2.2.2.1,v1.2.2.2.2.2.2.2.2.2.1,v1.2.2.2.2.2.2.2.2.2.2.1,(ByteArray.mk #[97]),v1.2.2.2.2.2.2.2.2.2.2.2.2.1,v1.2.2.2.2.2.2.2.2.2.2.2.2.2)) (some (v1.1,v1.2.1,v1.2.2.1,v1.2.2.2.1,v1.2.2.2.2.1,v1.2.2.2.2.2.1,v1.2.2.2.2.2.2.1,v1.2.2.2.2.2.2.2.1,v1.2.2.2.2.2.2.2.2.1,v1.2.2.2.2.2.2.2.2.2.1,v1.2.2.2.2.2.2.2.2.2.2.1,v1.2.2.2.2.2.2.2.2.2.2.2.1,v1.2.2.2.2.2.2.2.2.2.2.2.2.1,v1.2.2.2.2.2.2.2.2.2.2.2.2.2))) (tail8 v)))):=by rw [F8_eq]; rfl
theorem F8_ok {a b c:Int} (ha:0≤a∧a≤255) (hb:0≤b∧b≤255) (hc:0≤c∧c≤255):F8 (a,b,c)=some true:=by
 obtain ⟨e1,e2,e3⟩:=mods ha.1 ha.2 12 (by omega)
 obtain ⟨f1,f2,f3⟩:=mods hb.1 hb.2 64 (by omega)
 obtain ⟨g1,g2,g3⟩:=mods hc.1 hc.2 64 (by omega)
 have e4:IntKind.wrap .i64 (1+a % 12)=1+a % 12:=wi (by omega) (by omega)
 have fa:F17 ()=some true:=rfl
 rw [F8_t]
 simp only [e1,f1,g1,e4]
 have hk:1≤1+a % 12∧1+a % 12≤12:=by omega
 have key:∀ k fr to:Int,(1≤k∧k≤12)→(0≤fr∧fr≤63)→(0≤to∧to≤63)→fr=b % 64→to=c % 64→tail8 (a,b,c) ((least k fr to).1,(least k fr to).2.1,(least k fr to).2.2.1,(least k fr to).2.2.2.1,(least k fr to).2.2.2.2.1,(least k fr to).2.2.2.2.2.1,(least k fr to).2.2.2.2.2.2.1,(least k fr to).2.2.2.2.2.2.2.2.1,(least k fr to).2.2.2.2.2.2.2.2.2.1,(least k fr to).2.2.2.2.2.2.2.2.2.2.1,(least k fr to).2.2.2.2.2.2.2.2.2.2.2.1,(least k fr to).2.2.2.2.2.2.2.2.2.2.2.2.1,(least k fr to).2.2.2.2.2.2.2.2.2.2.2.2.2.1,(least k fr to).2.2.2.2.2.2.2.2.2.2.2.2.2.2)=some true:=by
  intro k fr to hk hf ht ef et
  have hm:=least_msg hk hf ht
  have hg:=least_giv k fr to
  have ea:((least k fr to).1,(least k fr to).2.1,(least k fr to).2.2.1,(least k fr to).2.2.2.1,(least k fr to).2.2.2.2.1,(least k fr to).2.2.2.2.2.1,(least k fr to).2.2.2.2.2.2.1,([]:List NW),(least k fr to).2.2.2.2.2.2.2.2.1,(least k fr to).2.2.2.2.2.2.2.2.2.1,(least k fr to).2.2.2.2.2.2.2.2.2.2.1,(least k fr to).2.2.2.2.2.2.2.2.2.2.2.1,(least k fr to).2.2.2.2.2.2.2.2.2.2.2.2.1,(least k fr to).2.2.2.2.2.2.2.2.2.2.2.2.2.1,(least k fr to).2.2.2.2.2.2.2.2.2.2.2.2.2.2)=least k fr to:=rfl
  have eb:∀ x:MB,(x.1,x.2.1,x.2.2.1,x.2.2.2.1,x.2.2.2.2.1,x.2.2.2.2.2.1,x.2.2.2.2.2.2.1,x.2.2.2.2.2.2.2.1,x.2.2.2.2.2.2.2.2.1,x.2.2.2.2.2.2.2.2.2.1,x.2.2.2.2.2.2.2.2.2.2.1,x.2.2.2.2.2.2.2.2.2.2.2.1,x.2.2.2.2.2.2.2.2.2.2.2.2.1,x.2.2.2.2.2.2.2.2.2.2.2.2.2.1,x.2.2.2.2.2.2.2.2.2.2.2.2.2.2)=x:=fun x=>rfl
  have s1:(least k fr to).2.2.2.2.2.2.2.1.length≤1000:=Nat.zero_le _
  have s2:(least k fr to).2.2.2.2.2.2.2.2.1.length≤1000:=by simp only [least]; split<;>simp
  have s3:(least k fr to).2.2.2.2.2.2.2.2.2.2.2.2.1.size≤maxLen:=by
   refine Nat.le_trans (m:=1) ?_ (by decide)
   show ByteArray.size (if k ≥ 11 then ByteArray.mk #[97] else ByteArray.mk #[])≤1
   split<;>decide
  have k1:(least k fr to).1=k:=rfl
  unfold tail8
  simp only [f1,g1,ea]
  generalize least k fr to=m at *
  cases hq:(fr==to)
  ·rw [hq] at hm
   have hm:msgB m=true:=hm
   have w:=write_ok hg hm s1 s2 s3
   have r:=read_ok hg hm
   have sm:=rsame_refl m s1 s2
   obtain ⟨p1,p2,p3⟩:=first_ok hm
   rw [← ef,← et,hq]
   have e0:((0:Int)==0)=true:=rfl
   have ek:(m.1==m.1)=true:=beq_self_eq_true _
   simp only [w,r,Option.bind_some,cond_true,cond_false,e0,eb,sm,decide_eq_true p3,p1,p2,ek,fa]
  ·rw [hq] at hm
   have hm:msgB m=false:=hm
   have w:=(bad_write s1 s2 s3 hm).1
   rw [← ef,← et,hq]
   have e1:((1:Int)==1)=true:=rfl
   have e2:((ByteArray.mk #[]).toList==(ByteArray.mk #[]).toList)=true:=beq_self_eq_true _
   simp only [w,Option.bind_some,cond_true,cond_false,e1,e2,fa]
 have key:=key (1+a % 12) (b % 64) (c % 64) hk (by omega) (by omega) rfl rfl
 revert key
 generalize 1+a % 12=k at *
 generalize b % 64=fr at *
 generalize c % 64=to at *
 intro key
 rcases kinds hk with rfl | rfl | rfl | rfl | rfl | rfl | rfl | rfl | rfl | rfl | rfl | rfl<;>(refine Eq.trans ?_ key; kernel_rfl)
end Go.Proofs.Ytgbcankkfmhcoaa.VL
end
