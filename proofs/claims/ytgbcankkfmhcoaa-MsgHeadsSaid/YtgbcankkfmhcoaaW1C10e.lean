import Derived.Test.YtgbcankkfmhcoaaW1Za
section
namespace Go.Proofs.Ytgbcankkfmhcoaa.VL
open Go
set_option linter.unusedVariables false
set_option linter.unusedSectionVars false
set_option linter.unusedSimpArgs false
set_option maxRecDepth 100000
variable [Val]
abbrev U64 (x:Int):Prop:=0≤x∧x≤18446744073709551615
structure Giv (m:MB):Prop where
 sq:U64 m.2.2.2.1
 ki:U64 m.2.2.2.2.2.1
 nw:∀ x ∈ m.2.2.2.2.2.2.2.1,U64 x.2.1
 tb:∀ x ∈ m.2.2.2.2.2.2.2.2.1,U64 x.1
 ep:U64 m.2.2.2.2.2.2.2.2.2.1
 bo:U64 m.2.2.2.2.2.2.2.2.2.2.1
 tn:U64 m.2.2.2.2.2.2.2.2.2.2.2.2.2.1
structure May (m:MB):Prop where
 k:1≤m.1∧m.1≤12
 fr:0≤m.2.1∧m.2.1≤63
 to:0≤m.2.2.1∧m.2.2.1≤63
 sq:kindB m.1 0=false→m.2.2.2.1=0
 wh:kindB m.1 1=false→m.2.2.2.2.1=0
 ki:kindB m.1 2=false→m.2.2.2.2.2.1=0
 ks:kindB m.1 2=false→m.2.2.2.2.2.2.1=0
 nw:kindB m.1 3=false→m.2.2.2.2.2.2.2.1=[]
 tb:kindB m.1 4=false→m.2.2.2.2.2.2.2.2.1=[]
 ep:kindB m.1 5=false→m.2.2.2.2.2.2.2.2.2.1=0
 bo:kindB m.1 6=false→m.2.2.2.2.2.2.2.2.2.2.1=0
 ak:kindB m.1 7=false→m.2.2.2.2.2.2.2.2.2.2.2.1=0
 tk:kindB m.1 8=false→m.2.2.2.2.2.2.2.2.2.2.2.2.1.toList=[]
 tn:kindB m.1 8=false→m.2.2.2.2.2.2.2.2.2.2.2.2.2.1=0
 gd:kindB m.1 9=false→m.2.2.2.2.2.2.2.2.2.2.2.2.2.2=false
 rwh:0≤m.2.2.2.2.1∧m.2.2.2.2.1≤63
 rks:0≤m.2.2.2.2.2.2.1∧m.2.2.2.2.2.2.1≤3
 rnw:m.2.2.2.2.2.2.2.1.length≤8∧∀ x ∈ m.2.2.2.2.2.2.2.1,(0≤x.1∧x.1≤63)∧0≤x.2.2∧x.2.2≤3
 rtb:m.2.2.2.2.2.2.2.2.1.length≤64∧∀ x ∈ m.2.2.2.2.2.2.2.2.1,0≤x.2∧x.2≤3
 rak:0≤m.2.2.2.2.2.2.2.2.2.2.2.1∧m.2.2.2.2.2.2.2.2.2.2.2.1≤1099511627776
 rtk:m.2.2.2.2.2.2.2.2.2.2.2.2.1.size≤20
theorem may_of {m:MB} (h:msgB m=true):May m:=by
 obtain ⟨k,fr,to,sq,wh,ki,ks,nw,tb,ep,bo,ak,tk,tn,gd⟩:=m
 unfold msgB sameB bareM nodeB partsB nodeB at h
 simp only [Bool.and_eq_true,decide_eq_true_eq,Bool.not_eq_true',beq_eq_false_iff_ne,beq_iff_eq] at h
 obtain ⟨h1,⟨h2,h3⟩,h4,⟨_,_,_,s1,s2,s3,s4,s5,s6,s7,s8,s9,s10,s11,s12⟩,p1,p2,p3,p4,p5,p6⟩:=h
 have z1:kindB k 0=false→sq=0:=fun q=>by rw [q] at s1; simpa using s1
 have z2:kindB k 1=false→wh=0:=fun q=>by rw [q] at s2; simpa using s2
 have z3:kindB k 2=false→ki=0:=fun q=>by rw [q] at s3; simpa using s3
 have z4:kindB k 2=false→ks=0:=fun q=>by rw [q] at s4; simpa using s4
 have z5:kindB k 3=false→nw=[]:=fun q=>by rw [q] at s5; simpa using s5
 have z6:kindB k 4=false→tb=[]:=fun q=>by rw [q] at s6; simpa using s6
 have z7:kindB k 5=false→ep=0:=fun q=>by rw [q] at s7; simpa using s7
 have z8:kindB k 6=false→bo=0:=fun q=>by rw [q] at s8; simpa using s8
 have z9:kindB k 7=false→ak=0:=fun q=>by rw [q] at s9; simpa using s9
 have z10:kindB k 8=false→tk.toList=[]:=fun q=>by
  rw [q] at s10
  have e:(ByteArray.mk #[]).toList=[]:=by rw [toList_data]
  simpa [e] using s10
 have z11:kindB k 8=false→tn=0:=fun q=>by rw [q] at s11; simpa using s11
 have z12:kindB k 9=false→gd=false:=fun q=>by rw [q] at s12; simpa using s12
 refine ⟨h1,h2,h3,z1,z2,z3,z4,z5,z6,z7,z8,z9,z10,z11,z12,?_,?_,?_,?_,?_,?_⟩
 ·cases q:kindB k 1
  ·show 0≤wh∧wh≤63
   rw [z2 q]; omega
  ·rw [q] at p1
   simpa [nodeB] using p1
 ·cases q:kindB k 2
  ·show 0≤ks∧ks≤3
   rw [z4 q]; omega
  ·rw [q] at p2
   simpa [knowB] using p2
 ·cases q:kindB k 3
  ·show nw.length≤8∧∀ x ∈ nw,_
   rw [z5 q]; exact ⟨by simp,fun x hx=>by simp at hx⟩
  ·rw [q] at p3
   have p3:newsB nw=true:=by simpa using p3
   unfold newsB at p3
   rw [Bool.and_eq_true,decide_eq_true_iff,List.all_eq_true] at p3
   refine ⟨p3.1,fun x hx=>?_⟩
   have:=p3.2 x hx
   simpa [tellB,nodeB,knowB] using this
 ·cases q:kindB k 4
  ·show tb.length≤64∧∀ x ∈ tb,_
   rw [z6 q]; exact ⟨by simp,fun x hx=>by simp at hx⟩
  ·rw [q] at p4
   have p4:tabB tb=true:=by simpa using p4
   unfold tabB at p4
   rw [Bool.and_eq_true,Bool.and_eq_true,decide_eq_true_iff,decide_eq_true_iff,List.all_eq_true] at p4
   refine ⟨p4.1.2,fun x hx=>?_⟩
   have:=p4.2 x hx
   simpa [knowB] using this
 ·cases q:kindB k 7
  ·show 0≤ak∧ak≤1099511627776
   rw [z9 q]; omega
  ·rw [q] at p5
   simpa [tickB] using p5
 ·cases q:kindB k 8
  ·show tk.size≤20
   rw [← toList_len,z10 q]; exact Nat.zero_le _
  ·rw [q] at p6
   have p6:nmB tk=true:=by simpa using p6
   unfold nmB at p6
   rw [Bool.and_eq_true,Bool.and_eq_true,decide_eq_true_iff,decide_eq_true_iff] at p6
   exact p6.2.2
theorem F22_1 {x:Int} (h:U64 x):F22 [x]=some (mkB (numU x)):=by
 have:=F22_ok (l:=[x]) (show 1≤900 by decide) (fun y hy=>by rw [List.mem_singleton] at hy; subst hy; exact h)
 simpa [numsU] using this
theorem F22_2 {x y:Int} (h:U64 x) (k:U64 y):F22 [x,y]=some (mkB (numU x++numU y)):=by
 have:=F22_ok (l:=[x,y]) (show 2≤900 by decide) (fun z hz=>by
  rcases List.mem_cons.1 hz with rfl | hz
  ·exact h
  ·rw [List.mem_singleton] at hz; subst hz; exact k)
 simpa [numsU] using this
theorem F22_3 {x y z:Int} (h:U64 x) (k:U64 y) (l:U64 z):F22 [x,y,z]=some (mkB (numU x++(numU y++numU z))):=by
 have:=F22_ok (l:=[x,y,z]) (show 3≤900 by decide) (fun w hw=>by
  rcases List.mem_cons.1 hw with rfl | hw
  ·exact h
  rcases List.mem_cons.1 hw with rfl | hw
  ·exact k
  ·rw [List.mem_singleton] at hw; subst hw; exact l)
 simpa [numsU] using this
theorem uw {x:Int} (h:U64 x):IntKind.wrap .u64 x=x:=wu h.1 h.2
def newO (x:NW):List UInt8:=numU x.1++(numU x.2.1++numU x.2.2)
def tabO (x:KW):List UInt8:=numU x.1++numU x.2
def pN (m:MB):Nat→List UInt8
 | 0=>numU m.2.2.2.1
 | 1=>numU m.2.2.2.2.2.2.2.2.2.1
 | 2=>numU m.2.2.2.2.2.2.2.2.2.2.1
 | 3=>numU m.2.2.2.2.2.2.2.2.2.2.2.2.2.1
 | 4=>numU m.2.2.2.2.1
 | 5=>numU m.2.2.2.2.2.1++numU m.2.2.2.2.2.2.1
 | 6=>numU ((m.2.2.2.2.2.2.2.1.length:Nat):Int)++m.2.2.2.2.2.2.2.1.flatMap newO
 | 7=>numU ((m.2.2.2.2.2.2.2.2.1.length:Nat):Int)++m.2.2.2.2.2.2.2.2.1.flatMap tabO
 | 8=>numU m.2.2.2.2.2.2.2.2.2.2.2.1
 | 9=>numU ((m.2.2.2.2.2.2.2.2.2.2.2.2.1.size:Nat):Int)++m.2.2.2.2.2.2.2.2.2.2.2.2.1.toList
 | _=>numU (if m.2.2.2.2.2.2.2.2.2.2.2.2.2.2=true then 1 else 0)
def litN:Nat→ByteArray
 | 0=>ByteArray.mk #[115,101,113]
 | 1=>ByteArray.mk #[101,112,111,99,104]
 | 2=>ByteArray.mk #[98,111,111,116]
 | 3=>ByteArray.mk #[116,111,107,101,110]
 | 4=>ByteArray.mk #[119,104,111]
 | 5=>ByteArray.mk #[107]
 | 6=>ByteArray.mk #[110,101,119,115]
 | 7=>ByteArray.mk #[116,97,98,108,101]
 | 8=>ByteArray.mk #[97,115,107,101,100]
 | 9=>ByteArray.mk #[116,97,115,107]
 | _=>ByteArray.mk #[103,111,111,100]
def hasN (k:Int):List Nat:=if k=1 then [0,5,6] else if k=2 then [0,4,6] else if k=3 then [0,4,5,6] else if k=4 then [0,4] else if k=5 then [7] else if k=6 then [7] else if k=7 then [1,2,8] else if k=8 then [1,2,8] else if k=9 then [1,2] else if k=10 then [2,8] else if k=11 then [1,2,8,9,3] else [9,3,10]
theorem kinds {k:Int} (h:1≤k∧k≤12):k=1∨k=2∨k=3∨k=4∨k=5∨k=6∨k=7∨k=8∨k=9∨k=10∨k=11∨k=12:=by omega
theorem has_ok {k:Int} (h:1≤k∧k≤12):F24 k=some ((hasN k).map litN)∧(hasN k).length≤5∧∀ j ∈ hasN k,j≤10:=by
 rcases kinds h with rfl | rfl | rfl | rfl | rfl | rfl | rfl | rfl | rfl | rfl | rfl | rfl
 ·exact ⟨has1,by decide,by decide⟩
 ·exact ⟨has2,by decide,by decide⟩
 ·exact ⟨has3,by decide,by decide⟩
 ·exact ⟨has4,by decide,by decide⟩
 ·exact ⟨has5,by decide,by decide⟩
 ·exact ⟨has6,by decide,by decide⟩
 ·exact ⟨has7,by decide,by decide⟩
 ·exact ⟨has8,by decide,by decide⟩
 ·exact ⟨has9,by decide,by decide⟩
 ·exact ⟨has10,by decide,by decide⟩
 ·exact ⟨has11,by decide,by decide⟩
 ·exact ⟨has12,by decide,by decide⟩
theorem flat_len10 {α:Type} {f:α→List UInt8} {c:Nat}:∀ {l:List α},(∀ x ∈ l,(f x).length≤c)→(l.flatMap f).length≤c * l.length
 | [],_=>Nat.le_refl _
 | a::r,h=>by
  have h1:=flat_len10 (l:=r) (fun x hx=>h x (by simp [hx]))
  have h2:=h a (by simp)
  rw [List.flatMap_cons,List.length_append,List.length_cons,Nat.mul_add]
  omega
theorem F61_ok {i s:Int} (h:U64 i) (k:0≤s∧s≤3):F61 (i,s)=some (mkB (numU i++numU s)):=by
 rw [F61_eq]
 have e:U64 s:=⟨k.1,by omega⟩
 have f:=F22_2 h e
 simp only [uw e]
 rw [f]; rfl
theorem news_oct {m:MB} (g:Giv m) (h:May m):F65 m=some (mkB (pN m 6)):=by
 rw [F65_eq]
 obtain ⟨k,fr,to,sq,wh,ki,ks,l,tb,ep,bo,ak,tk,tn,gd⟩:=m
 have hl:l.length≤8:=h.rnw.1
 have hr:∀ x ∈ l,(0≤x.1∧x.1≤63)∧0≤x.2.2∧x.2.2≤3:=h.rnw.2
 have hu:∀ x ∈ l,U64 x.2.1:=g.nw
 have e0:U64 ((l.length:Nat):Int):=⟨by omega,by omega⟩
 have f0:=F22_1 e0
 have hn:(numU ((l.length:Nat):Int)).length≤10:=numU_len e0.2
 have ho:∀ x ∈ l,(newO x).length≤30:=fun x hx=>by
  obtain ⟨⟨a,b⟩,c,d⟩:=hr x hx
  have h1:=numU_len (x:=x.1) (by omega)
  have h2:=numU_len (hu x hx).2
  have h3:=numU_len (x:=x.2.2) (by omega)
  unfold newO
  rw [List.length_append,List.length_append]; omega
 show _=some (mkB (numU ((l.length:Nat):Int)++l.flatMap newO))
 simp -implicitDefEqProofs only [uw e0,f0,eq_self,xs]
 rw [loop_detE (s0:=(mkB (numU ((l.length:Nat):Int)),(0:Int))) l.length (fun i=>(mkB (numU ((l.length:Nat):Int)++(l.take i).flatMap newO),((i:Nat):Int))) (mkB (numU ((l.length:Nat):Int)++l.flatMap newO)) (by simp)]
 ·have q:¬ ((l.length:Nat):Int) < ((l.length:Nat):Int):=by omega
  have e:l.take l.length=l:=List.take_length
  simp -implicitDefEqProofs only [q,e,eq_self,xs]
 ·intro i hi
  have q1:((i:Nat):Int) < ((l.length:Nat):Int):=by omega
  have q2:(0:Int)≤(i:Int):=by omega
  have gg:=List.getElem?_eq_getElem hi
  have hx:=hr l[i] (List.getElem_mem hi)
  have hux:=hu l[i] (List.getElem_mem hi)
  have hox:=ho l[i] (List.getElem_mem hi)
  have tk':(l.take (i+1)).flatMap newO=(l.take i).flatMap newO++newO l[i]:=by
   rw [List.take_succ_eq_append_getElem hi,List.flatMap_append]; simp
  have hA:((l.take i).flatMap newO).length≤240:=by
   have:=flat_len10 (l:=l.take i) (fun x hx=>ho x (List.mem_of_mem_take hx))
   rw [List.length_take] at this
   omega
  rw [tk']
  generalize l[i]=x at *
  generalize (l.take i).flatMap newO=A at *
  have e1:U64 x.1:=⟨hx.1.1,by omega⟩
  have f1:=F22_1 e1
  have f2:=F61_ok hux hx.2
  have hB:(numU ((l.length:Nat):Int)++A).length≤300:=by rw [List.length_append]; omega
  rw [← List.append_assoc]
  generalize numU ((l.length:Nat):Int)++A=B at *
  unfold newO at hox ⊢
  have s1:(mkB (numU x.1)).size+(mkB (numU x.2.1++numU x.2.2)).size≤4611686018427387904:=by
   rw [mkB_size,mkB_size]; rw [List.length_append] at hox; omega
  have s2:(mkB B).size+(mkB (numU x.1++(numU x.2.1++numU x.2.2))).size≤4611686018427387904:=by
   rw [mkB_size,mkB_size]; omega
  have ww:=w1 (show i≤9223372036854775806 by omega)
  simp -implicitDefEqProofs only [q1,q2,gg,uw e1,f1,f2,s1,mkB_app,s2,ww,eq_self,xs]
theorem tab_oct {m:MB} (g:Giv m) (h:May m):F69 m=some (mkB (pN m 7)):=by
 rw [F69_eq]
 obtain ⟨k,fr,to,sq,wh,ki,ks,nw,l,ep,bo,ak,tk,tn,gd⟩:=m
 have hl:l.length≤64:=h.rtb.1
 have hr:∀ x ∈ l,0≤x.2∧x.2≤3:=h.rtb.2
 have hu:∀ x ∈ l,U64 x.1:=g.tb
 have e0:U64 ((l.length:Nat):Int):=⟨by omega,by omega⟩
 have f0:=F22_1 e0
 have hn:(numU ((l.length:Nat):Int)).length≤10:=numU_len e0.2
 have ho:∀ x ∈ l,(tabO x).length≤20:=fun x hx=>by
  obtain ⟨c,d⟩:=hr x hx
  have h2:=numU_len (hu x hx).2
  have h3:=numU_len (x:=x.2) (by omega)
  unfold tabO
  rw [List.length_append]; omega
 show _=some (mkB (numU ((l.length:Nat):Int)++l.flatMap tabO))
 simp -implicitDefEqProofs only [uw e0,f0,eq_self,xs]
 rw [loop_detE (s0:=(mkB (numU ((l.length:Nat):Int)),(0:Int))) l.length (fun i=>(mkB (numU ((l.length:Nat):Int)++(l.take i).flatMap tabO),((i:Nat):Int))) (mkB (numU ((l.length:Nat):Int)++l.flatMap tabO)) (by simp)]
 ·have q:¬ ((l.length:Nat):Int) < ((l.length:Nat):Int):=by omega
  have e:l.take l.length=l:=List.take_length
  simp -implicitDefEqProofs only [q,e,eq_self,xs]
 ·intro i hi
  have q1:((i:Nat):Int) < ((l.length:Nat):Int):=by omega
  have q2:(0:Int)≤(i:Int):=by omega
  have gg:=List.getElem?_eq_getElem hi
  have hx:=hr l[i] (List.getElem_mem hi)
  have hux:=hu l[i] (List.getElem_mem hi)
  have hox:=ho l[i] (List.getElem_mem hi)
  have tk':(l.take (i+1)).flatMap tabO=(l.take i).flatMap tabO++tabO l[i]:=by
   rw [List.take_succ_eq_append_getElem hi,List.flatMap_append]; simp
  have hA:((l.take i).flatMap tabO).length≤1280:=by
   have:=flat_len10 (l:=l.take i) (fun x hx=>ho x (List.mem_of_mem_take hx))
   rw [List.length_take] at this
   omega
  rw [tk']
  generalize l[i]=x at *
  generalize (l.take i).flatMap tabO=A at *
  have f2:=F61_ok hux hx
  have hB:(numU ((l.length:Nat):Int)++A).length≤1300:=by rw [List.length_append]; omega
  rw [← List.append_assoc]
  generalize numU ((l.length:Nat):Int)++A=B at *
  unfold tabO at hox ⊢
  have s2:(mkB B).size+(mkB (numU x.1++numU x.2)).size≤4611686018427387904:=by
   rw [mkB_size,mkB_size]; omega
  have ww:=w1 (show i≤9223372036854775806 by omega)
  simp -implicitDefEqProofs only [q1,q2,gg,f2,mkB_app,s2,ww,eq_self,xs]
theorem mkB_of (s:ByteArray):mkB s.toList=s:=toList_inj (mkB_toList _)
theorem task_oct {m:MB} (h:May m):F76 m=some (mkB (pN m 9)):=by
 rw [F76_eq,F88_eq]
 obtain ⟨k,fr,to,sq,wh,ki,ks,nw,tb,ep,bo,ak,tk,tn,gd⟩:=m
 have hs:tk.size≤20:=h.rtk
 have e0:U64 ((tk.size:Nat):Int):=⟨by omega,by omega⟩
 have f0:=F22_1 e0
 have hn:(numU ((tk.size:Nat):Int)).length≤10:=numU_len e0.2
 have q:¬ ((tk.size:Nat):Int) > 200:=by omega
 have s1:(mkB (numU ((tk.size:Nat):Int))).size+tk.size≤4611686018427387904:=by rw [mkB_size]; omega
 have e:mkB (numU ((tk.size:Nat):Int))++tk=mkB (numU ((tk.size:Nat):Int)++tk.toList):=by
  rw [← mkB_app,mkB_of]
 show _=some (mkB (numU ((tk.size:Nat):Int)++tk.toList))
 simp -implicitDefEqProofs only [q,uw e0,f0,s1,nz0,e,eq_self,xs]
theorem good_oct {m:MB}:F78 m=some (mkB (pN m 10)):=by
 rw [F78_eq]
 obtain ⟨k,fr,to,sq,wh,ki,ks,nw,tb,ep,bo,ak,tk,tn,gd⟩:=m
 show _=some (mkB (numU (if gd=true then 1 else 0)))
 have f1:=F22_1 (x:=1) ⟨by omega,by omega⟩
 have f0:=F22_1 (x:=0) ⟨by omega,by omega⟩
 cases gd<;>simp only [F79_eq,cond_true,cond_false,Option.bind_some,f1,f0,if_true,Bool.false_eq_true,if_false]
theorem pN_len {m:MB} (g:Giv m) (h:May m) (j:Nat):(pN m j).length≤1400:=by
 have hz:∀ x:Int,U64 x→(numU x).length≤10:=fun x hx=>numU_len hx.2
 match j with
 | 0=>have:=hz _ g.sq; simp only [pN]; omega
 | 1=>have:=hz _ g.ep; simp only [pN]; omega
 | 2=>have:=hz _ g.bo; simp only [pN]; omega
 | 3=>have:=hz _ g.tn; simp only [pN]; omega
 | 4=>have:=numU_len (x:=m.2.2.2.2.1) (by have:=h.rwh; omega); simp only [pN]; omega
 | 5 =>
  have h1:=hz _ g.ki
  have h2:=numU_len (x:=m.2.2.2.2.2.2.1) (by have:=h.rks; omega)
  simp only [pN,List.length_append]; omega
 | 6 =>
  have h1:=numU_len (x:=((m.2.2.2.2.2.2.2.1.length:Nat):Int)) (by have:=h.rnw.1; omega)
  have h2:=flat_len10 (f:=newO) (c:=30) (l:=m.2.2.2.2.2.2.2.1) (fun x hx=>by
   obtain ⟨⟨a,b⟩,c,d⟩:=h.rnw.2 x hx
   have h1:=numU_len (x:=x.1) (by omega)
   have h2:=hz _ (g.nw x hx)
   have h3:=numU_len (x:=x.2.2) (by omega)
   unfold newO
   rw [List.length_append,List.length_append]; omega)
  have:=h.rnw.1
  simp only [pN,List.length_append]; omega
 | 7 =>
  have h1:=numU_len (x:=((m.2.2.2.2.2.2.2.2.1.length:Nat):Int)) (by have:=h.rtb.1; omega)
  have h2:=flat_len10 (f:=tabO) (c:=20) (l:=m.2.2.2.2.2.2.2.2.1) (fun x hx=>by
   obtain ⟨c,d⟩:=h.rtb.2 x hx
   have h2:=hz _ (g.tb x hx)
   have h3:=numU_len (x:=x.2) (by omega)
   unfold tabO
   rw [List.length_append]; omega)
  have:=h.rtb.1
  simp only [pN,List.length_append]; omega
 | 8=>have:=numU_len (x:=m.2.2.2.2.2.2.2.2.2.2.2.1) (by have:=h.rak; omega); simp only [pN]; omega
 | 9 =>
  have h1:=numU_len (x:=((m.2.2.2.2.2.2.2.2.2.2.2.2.1.size:Nat):Int)) (by have:=h.rtk; omega)
  have h2:=toList_len m.2.2.2.2.2.2.2.2.2.2.2.2.1
  have:=h.rtk
  simp only [pN,List.length_append]; omega
 | j+10 =>
  simp only [pN]
  have:=numU_len (x:=if m.2.2.2.2.2.2.2.2.2.2.2.2.2.2=true then 1 else 0) (by split<;>omega)
  omega
end Go.Proofs.Ytgbcankkfmhcoaa.VL
end
section
namespace Go.Proofs.Ytgbcankkfmhcoaa.VL
open Go
set_option linter.unusedVariables false
set_option linter.unusedSectionVars false
set_option linter.unusedSimpArgs false
set_option maxRecDepth 100000
variable [Val]
theorem pN_len2 {m:MB} (g:Giv m) (h:May m) (j:Nat) (hj:j≠7):(pN m j).length≤300:=by
 have hz:∀ x:Int,U64 x→(numU x).length≤10:=fun x hx=>numU_len hx.2
 match j,hj with
 | 0,_=>have:=hz _ g.sq; simp only [pN]; omega
 | 1,_=>have:=hz _ g.ep; simp only [pN]; omega
 | 2,_=>have:=hz _ g.bo; simp only [pN]; omega
 | 3,_=>have:=hz _ g.tn; simp only [pN]; omega
 | 4,_=>have:=numU_len (x:=m.2.2.2.2.1) (by have:=h.rwh; omega); simp only [pN]; omega
 | 5,_ =>
  have h1:=hz _ g.ki
  have h2:=numU_len (x:=m.2.2.2.2.2.2.1) (by have:=h.rks; omega)
  simp only [pN,List.length_append]; omega
 | 6,_ =>
  have h1:=numU_len (x:=((m.2.2.2.2.2.2.2.1.length:Nat):Int)) (by have:=h.rnw.1; omega)
  have h2:=flat_len10 (f:=newO) (c:=30) (l:=m.2.2.2.2.2.2.2.1) (fun x hx=>by
   obtain ⟨⟨a,b⟩,c,d⟩:=h.rnw.2 x hx
   have h1:=numU_len (x:=x.1) (by omega)
   have h2:=hz _ (g.nw x hx)
   have h3:=numU_len (x:=x.2.2) (by omega)
   unfold newO
   rw [List.length_append,List.length_append]; omega)
  have:=h.rnw.1
  simp only [pN,List.length_append]; omega
 | 8,_=>have:=numU_len (x:=m.2.2.2.2.2.2.2.2.2.2.2.1) (by have:=h.rak; omega); simp only [pN]; omega
 | 9,_ =>
  have h1:=numU_len (x:=((m.2.2.2.2.2.2.2.2.2.2.2.2.1.size:Nat):Int)) (by have:=h.rtk; omega)
  have h2:=toList_len m.2.2.2.2.2.2.2.2.2.2.2.2.1
  have:=h.rtk
  simp only [pN,List.length_append]; omega
 | j+10,_ =>
  simp only [pN]
  have:=numU_len (x:=if m.2.2.2.2.2.2.2.2.2.2.2.2.2.2=true then 1 else 0) (by split<;>omega)
  omega
def parO (m:MB):List UInt8:=(hasN m.1).flatMap (pN m)
theorem parO_len {m:MB} (g:Giv m) (h:May m):(parO m).length≤1500:=by
 unfold parO
 by_cases h7:hasN m.1=[7]
 ·rw [h7]
  have:=pN_len g h 7
  simp only [List.flatMap_cons,List.flatMap_nil,List.append_nil]; omega
 ·have hn:∀ j ∈ hasN m.1,j≠7:=by
   have hk:=h.k
   generalize m.1=k at *
   rcases kinds hk with rfl | rfl | rfl | rfl | rfl | rfl | rfl | rfl | rfl | rfl | rfl | rfl<;>first | decide | exact absurd rfl h7
  have h1:=flat_len10 (f:=pN m) (c:=300) (l:=hasN m.1) (fun j hj=>pN_len2 g h j (hn j hj))
  have h2:=(has_ok h.k).2.1
  omega
def heaO (m:MB):List UInt8:=numU m.1++(numU m.2.1++numU m.2.2.1)
def bodO (m:MB):List UInt8:=heaO m++parO m
def four (c:Int):List UInt8:=[bI (IntKind.wrap .u8 c),bI (IntKind.wrap .u8 (Int.fdiv c 256)),bI (IntKind.wrap .u8 (Int.fdiv c 65536)),bI (IntKind.wrap .u8 (Int.fdiv c 16777216))]
def txtO (m:MB):List UInt8:=bodO m++four (crc (bodO m))
theorem F81_ok (c:Int):F81 c=some (mkB (four c)):=by rw [F81_eq]; rfl
theorem seal_ok {l:List UInt8} (h:l.length≤4096):F25 (mkB l)=some (mkB (l++four (crc l)),0):=by
 rw [F25_eq]
 have q:¬ (((mkB l).size:Nat):Int) > 4096:=by rw [mkB_size]; omega
 have f:=F82_ok (s:=mkB l) (by rw [mkB_size]; omega)
 rw [mkB_toList] at f
 have f2:=F81_ok (crc l)
 have s:(mkB l).size+(mkB (four (crc l))).size≤4611686018427387904:=by
  rw [mkB_size,mkB_size]
  have:(four (crc l)).length=4:=rfl
  omega
 rw [decide_eq_false q,cond_false]
 simp only [f,f2,Option.bind_some,decide_eq_true s,cond_true,mkB_app]
theorem write_ok {m:MB} (g:Giv m) (hm:msgB m=true) (hw:m.2.2.2.2.2.2.2.1.length≤1000) (ht:m.2.2.2.2.2.2.2.2.1.length≤1000) (hk:m.2.2.2.2.2.2.2.2.2.2.2.2.1.size≤maxLen):F10 m=some (mkB (txtO m),0):=by
 have h:=may_of hm
 have c:=check_ok m hw ht hk
 rw [if_pos hm] at c
 have hr:=h.k
 have hf:=h.fr
 have hto:=h.to
 have e1:U64 m.1:=⟨by omega,by omega⟩
 have e2:U64 m.2.1:=⟨by omega,by omega⟩
 have e3:U64 m.2.2.1:=⟨by omega,by omega⟩
 have f3:=F22_3 e1 e2 e3
 obtain ⟨f24,hlen,hj10⟩:=has_ok h.k
 have p0:F22 [m.2.2.2.1]=some (mkB (pN m 0)):=F22_1 g.sq
 have p1:F22 [m.2.2.2.2.2.2.2.2.2.1]=some (mkB (pN m 1)):=F22_1 g.ep
 have p2:F22 [m.2.2.2.2.2.2.2.2.2.2.1]=some (mkB (pN m 2)):=F22_1 g.bo
 have p3:F22 [m.2.2.2.2.2.2.2.2.2.2.2.2.2.1]=some (mkB (pN m 3)):=F22_1 g.tn
 have p4:F56 m=some (mkB (pN m 4)):=by
  rw [F56_eq]
  have e:U64 m.2.2.2.2.1:=⟨h.rwh.1,by have:=h.rwh; omega⟩
  rw [uw e,F22_1 e]; rfl
 have p5:F60 m=some (mkB (pN m 5)):=by
  rw [F60_eq,F61_ok g.ki h.rks]; rfl
 have p6:=news_oct g h
 have p7:=tab_oct g h
 have p8:F73 m=some (mkB (pN m 8)):=by
  rw [F73_eq]
  have e:U64 m.2.2.2.2.2.2.2.2.2.2.2.1:=⟨h.rak.1,by have:=h.rak; omega⟩
  rw [uw e,F22_1 e]; rfl
 have p9:=task_oct h
 have p10:F78 m=some (mkB (pN m 10)):=good_oct
 have pl:=pN_len g h
 have hP:=parO_len g h
 have hH:(heaO m).length≤30:=by
  unfold heaO
  have a:=numU_len e1.2
  have b:=numU_len e2.2
  have d:=numU_len e3.2
  rw [List.length_append,List.length_append]; omega
 have fs:=seal_ok (l:=bodO m) (by unfold bodO; rw [List.length_append]; omega)
 have u1:=uw e1
 have u2:=uw e2
 have u3:=uw e3
 unfold txtO
 have hbod:bodO m=heaO m++(hasN m.1).flatMap (pN m):=rfl
 have hhea:mkB (numU m.1++(numU m.2.1++numU m.2.2.1))=mkB (heaO m):=rfl
 rw [F10_eq]
 obtain ⟨k,fr,to,sq,wh,ki,ks,nw,tb,ep,bo,ak,tk,tn,gd⟩:=m
 simp only at c u1 u2 u3 f3 f24 p0 p1 p2 p3 hhea hbod hlen hj10
 simp only [c,u1,u2,u3,f3,f24,Option.bind_some,nz0,cond_false,hhea]
 generalize hm':((k,fr,to,sq,wh,ki,ks,nw,tb,ep,bo,ak,tk,tn,gd):MB)=m at *
 generalize heaO m=H at *
 generalize hasN k=L at *
 rw [loop_detE (s0:=(mkB H,(0:Int))) L.length (fun i=>(mkB (H++(L.take i).flatMap (pN m)),((i:Nat):Int))) (mkB (H++L.flatMap (pN m))) (by simp)]
 ·rw [hbod] at fs
  simp only [Option.bind_some,fs,hbod]
  try rfl
 ·have q:¬ ((L.length:Nat):Int) < (((L.map litN).length:Nat):Int):=by rw [List.length_map]; omega
  have e:L.take L.length=L:=List.take_length
  simp only [decide_eq_false q,cond_false,e]
 ·intro i hi
  have q1:((i:Nat):Int) < (((L.map litN).length:Nat):Int):=by rw [List.length_map]; omega
  have q2:(0:Int)≤(i:Int):=by omega
  have gg:(L.map litN)[i]?=some (litN L[i]):=by rw [List.getElem?_map,List.getElem?_eq_getElem hi]; rfl
  have hj:=hj10 L[i] (List.getElem_mem hi)
  have tk':(L.take (i+1)).flatMap (pN m)=(L.take i).flatMap (pN m)++pN m L[i]:=by
   rw [List.take_succ_eq_append_getElem hi,List.flatMap_append]; simp
  have hA:((L.take i).flatMap (pN m)).length≤7000:=by
   have:=flat_len10 (f:=pN m) (c:=1400) (l:=L.take i) (fun j _=>pl j)
   rw [List.length_take] at this
   omega
  rw [tk',← List.append_assoc]
  generalize L[i]=j at *
  have hB:(H++(L.take i).flatMap (pN m)).length≤7100:=by rw [List.length_append]; omega
  generalize H++(L.take i).flatMap (pN m)=B at *
  have ss:(mkB B).size+(mkB (pN m j)).size≤4611686018427387904:=by
   rw [mkB_size,mkB_size]
   have:=pl j
   omega
  have ww:=w1 (show i≤9223372036854775806 by omega)
  have hjj:j=0∨j=1∨j=2∨j=3∨j=4∨j=5∨j=6∨j=7∨j=8∨j=9∨j=10:=by omega
  rcases hjj with rfl | rfl | rfl | rfl | rfl | rfl | rfl | rfl | rfl | rfl | rfl<;>simp only [litN] at gg<;>simp -implicitDefEqProofs only [q1,q2,gg,nq,p0,p1,p2,p3,p4,p5,p6,p7,p8,p9,p10,ss,mkB_app,ww,eq_self,xs]
end Go.Proofs.Ytgbcankkfmhcoaa.VL
end
section
namespace Go.Proofs.Ytgbcankkfmhcoaa.VL
open Go
set_option linter.unusedVariables false
set_option linter.unusedSectionVars false
set_option linter.unusedSimpArgs false
set_option maxRecDepth 100000
variable [Val]
theorem list_pre {α:Type} {f:α→List UInt8}:∀ {l l':List α} {r s:List UInt8},(∀ x ∈ l,∀ y ∈ l',∀ r s,f x++r=f y++s→x=y∧r=s)→l.length=l'.length→l.flatMap f++r=l'.flatMap f++s→l=l'∧r=s
 | [],[],r,s,_,_,h=>⟨rfl,by simpa using h⟩
 | [],b::l',r,s,_,hl,_=>by simp at hl
 | a::l,[],r,s,_,hl,_=>by simp at hl
 | a::l,b::l',r,s,hf,hl,h=>by
  rw [List.flatMap_cons,List.flatMap_cons,List.append_assoc,List.append_assoc] at h
  obtain ⟨h1,h2⟩:=hf a (by simp) b (by simp) _ _ h
  obtain ⟨h3,h4⟩:=list_pre (l:=l) (l':=l') (fun x hx y hy=>hf x (by simp [hx]) y (by simp [hy])) (by simpa using hl) h2
  exact ⟨by rw [h1,h3],h4⟩
def fEq (m n:MB):Nat→Prop
 | 0=>m.2.2.2.1=n.2.2.2.1
 | 1=>m.2.2.2.2.2.2.2.2.2.1=n.2.2.2.2.2.2.2.2.2.1
 | 2=>m.2.2.2.2.2.2.2.2.2.2.1=n.2.2.2.2.2.2.2.2.2.2.1
 | 3=>m.2.2.2.2.2.2.2.2.2.2.2.2.2.1=n.2.2.2.2.2.2.2.2.2.2.2.2.2.1
 | 4=>m.2.2.2.2.1=n.2.2.2.2.1
 | 5=>m.2.2.2.2.2.1=n.2.2.2.2.2.1∧m.2.2.2.2.2.2.1=n.2.2.2.2.2.2.1
 | 6=>m.2.2.2.2.2.2.2.1=n.2.2.2.2.2.2.2.1
 | 7=>m.2.2.2.2.2.2.2.2.1=n.2.2.2.2.2.2.2.2.1
 | 8=>m.2.2.2.2.2.2.2.2.2.2.2.1=n.2.2.2.2.2.2.2.2.2.2.2.1
 | 9=>m.2.2.2.2.2.2.2.2.2.2.2.2.1.toList=n.2.2.2.2.2.2.2.2.2.2.2.2.1.toList
 | _=>m.2.2.2.2.2.2.2.2.2.2.2.2.2.2=n.2.2.2.2.2.2.2.2.2.2.2.2.2.2
theorem part_pre {m n:MB} (gm:Giv m) (hm:May m) (gn:Giv n) (hn:May n) (j:Nat) {r s:List UInt8} (h:pN m j++r=pN n j++s):fEq m n j∧r=s:=by
 match j,h with
 | 0,h=>exact numU_pre gm.sq.1 gn.sq.1 h
 | 1,h=>exact numU_pre gm.ep.1 gn.ep.1 h
 | 2,h=>exact numU_pre gm.bo.1 gn.bo.1 h
 | 3,h=>exact numU_pre gm.tn.1 gn.tn.1 h
 | 4,h=>exact numU_pre hm.rwh.1 hn.rwh.1 h
 | 5,h =>
  simp only [pN,List.append_assoc] at h
  obtain ⟨h1,h2⟩:=numU_pre gm.ki.1 gn.ki.1 h
  obtain ⟨h3,h4⟩:=numU_pre hm.rks.1 hn.rks.1 h2
  exact ⟨⟨h1,h3⟩,h4⟩
 | 6,h =>
  simp only [pN,List.append_assoc] at h
  obtain ⟨h1,h2⟩:=numU_pre (by omega) (by omega) h
  refine list_pre (fun x hx y hy r s hh=>?_) (by omega) h2
  simp only [newO,List.append_assoc] at hh
  obtain ⟨a1,a2⟩:=numU_pre (hm.rnw.2 x hx).1.1 (hn.rnw.2 y hy).1.1 hh
  obtain ⟨a3,a4⟩:=numU_pre (gm.nw x hx).1 (gn.nw y hy).1 a2
  obtain ⟨a5,a6⟩:=numU_pre (hm.rnw.2 x hx).2.1 (hn.rnw.2 y hy).2.1 a4
  exact ⟨Prod.ext a1 (Prod.ext a3 a5),a6⟩
 | 7,h =>
  simp only [pN,List.append_assoc] at h
  obtain ⟨h1,h2⟩:=numU_pre (by omega) (by omega) h
  refine list_pre (fun x hx y hy r s hh=>?_) (by omega) h2
  simp only [tabO,List.append_assoc] at hh
  obtain ⟨a1,a2⟩:=numU_pre (gm.tb x hx).1 (gn.tb y hy).1 hh
  obtain ⟨a3,a4⟩:=numU_pre (hm.rtb.2 x hx).1 (hn.rtb.2 y hy).1 a2
  exact ⟨Prod.ext a1 a3,a4⟩
 | 8,h=>exact numU_pre hm.rak.1 hn.rak.1 h
 | 9,h =>
  simp only [pN,List.append_assoc] at h
  obtain ⟨h1,h2⟩:=numU_pre (by omega) (by omega) h
  exact List.append_inj h2 (by rw [toList_len,toList_len]; omega)
 | j+10,h =>
  simp only [pN] at h
  obtain ⟨h1,h2⟩:=numU_pre (by split<;>omega) (by split<;>omega) h
  refine ⟨?_,h2⟩
  show m.2.2.2.2.2.2.2.2.2.2.2.2.2.2=n.2.2.2.2.2.2.2.2.2.2.2.2.2.2
  generalize m.2.2.2.2.2.2.2.2.2.2.2.2.2.2=a at *
  generalize n.2.2.2.2.2.2.2.2.2.2.2.2.2.2=b at *
  cases a<;>cases b<;>first | rfl | (simp at h1)
theorem parts_pre {m n:MB} (gm:Giv m) (hm:May m) (gn:Giv n) (hn:May n):∀ {L:List Nat} {r s:List UInt8},L.flatMap (pN m)++r=L.flatMap (pN n)++s→(∀ j ∈ L,fEq m n j)∧r=s
 | [],r,s,h=>⟨fun j hj=>by simp at hj,by simpa using h⟩
 | a::L,r,s,h=>by
  rw [List.flatMap_cons,List.flatMap_cons,List.append_assoc,List.append_assoc] at h
  obtain ⟨h1,h2⟩:=part_pre gm hm gn hn a h
  obtain ⟨h3,h4⟩:=parts_pre gm hm gn hn h2
  exact ⟨fun j hj=>by
   rcases List.mem_cons.1 hj with rfl | hj
   ·exact h1
   ·exact h3 j hj,h4⟩
theorem in_has {k:Int} (h:1≤k∧k≤12):(kindB k 0=true→0 ∈ hasN k)∧(kindB k 1=true→4 ∈ hasN k)∧(kindB k 2=true→5 ∈ hasN k)∧(kindB k 3=true→6 ∈ hasN k)∧(kindB k 4=true→7 ∈ hasN k)∧(kindB k 5=true→1 ∈ hasN k)∧(kindB k 6=true→2 ∈ hasN k)∧(kindB k 7=true→8 ∈ hasN k)∧(kindB k 8=true→9 ∈ hasN k)∧(kindB k 8=true→3 ∈ hasN k)∧(kindB k 9=true→10 ∈ hasN k):=by
 rcases kinds h with rfl | rfl | rfl | rfl | rfl | rfl | rfl | rfl | rfl | rfl | rfl | rfl<;>decide
theorem txt_same {m n:MB} (gm:Giv m) (hm:May m) (gn:Giv n) (hn:May n) (h:txtO m=txtO n):sameB m n=true:=by
 unfold txtO at h
 have h:=(List.append_inj' h rfl).1
 unfold bodO heaO at h
 rw [List.append_assoc,List.append_assoc,List.append_assoc,List.append_assoc] at h
 have km:=hm.k
 have kn:=hn.k
 obtain ⟨h1,h2⟩:=numU_pre (by omega) (by omega) h
 obtain ⟨h3,h4⟩:=numU_pre hm.fr.1 hn.fr.1 h2
 obtain ⟨h5,h6⟩:=numU_pre hm.to.1 hn.to.1 h4
 unfold parO at h6
 rw [← h1] at h6
 obtain ⟨hall,_⟩:=parts_pre (r:=[]) (s:=[]) gm hm gn hn (L:=hasN m.1) (by rw [List.append_nil,List.append_nil]; exact h6)
 obtain ⟨i0,i1,i2,i3,i4,i5,i6,i7,i8,i8',i9⟩:=in_has km
 have e0:m.2.2.2.1=n.2.2.2.1:=by
  cases q:kindB m.1 0
  ·rw [hm.sq q,hn.sq (by rw [← h1]; exact q)]
  ·exact hall 0 (i0 q)
 have e1:m.2.2.2.2.1=n.2.2.2.2.1:=by
  cases q:kindB m.1 1
  ·rw [hm.wh q,hn.wh (by rw [← h1]; exact q)]
  ·exact hall 4 (i1 q)
 have e2:m.2.2.2.2.2.1=n.2.2.2.2.2.1∧m.2.2.2.2.2.2.1=n.2.2.2.2.2.2.1:=by
  cases q:kindB m.1 2
  ·rw [hm.ki q,hn.ki (by rw [← h1]; exact q),hm.ks q,hn.ks (by rw [← h1]; exact q)]; exact ⟨rfl,rfl⟩
  ·exact hall 5 (i2 q)
 have e3:m.2.2.2.2.2.2.2.1=n.2.2.2.2.2.2.2.1:=by
  cases q:kindB m.1 3
  ·rw [hm.nw q,hn.nw (by rw [← h1]; exact q)]
  ·exact hall 6 (i3 q)
 have e4:m.2.2.2.2.2.2.2.2.1=n.2.2.2.2.2.2.2.2.1:=by
  cases q:kindB m.1 4
  ·rw [hm.tb q,hn.tb (by rw [← h1]; exact q)]
  ·exact hall 7 (i4 q)
 have e5:m.2.2.2.2.2.2.2.2.2.1=n.2.2.2.2.2.2.2.2.2.1:=by
  cases q:kindB m.1 5
  ·rw [hm.ep q,hn.ep (by rw [← h1]; exact q)]
  ·exact hall 1 (i5 q)
 have e6:m.2.2.2.2.2.2.2.2.2.2.1=n.2.2.2.2.2.2.2.2.2.2.1:=by
  cases q:kindB m.1 6
  ·rw [hm.bo q,hn.bo (by rw [← h1]; exact q)]
  ·exact hall 2 (i6 q)
 have e7:m.2.2.2.2.2.2.2.2.2.2.2.1=n.2.2.2.2.2.2.2.2.2.2.2.1:=by
  cases q:kindB m.1 7
  ·rw [hm.ak q,hn.ak (by rw [← h1]; exact q)]
  ·exact hall 8 (i7 q)
 have e8:m.2.2.2.2.2.2.2.2.2.2.2.2.1.toList=n.2.2.2.2.2.2.2.2.2.2.2.2.1.toList:=by
  cases q:kindB m.1 8
  ·rw [hm.tk q,hn.tk (by rw [← h1]; exact q)]
  ·exact hall 9 (i8 q)
 have e9:m.2.2.2.2.2.2.2.2.2.2.2.2.2.1=n.2.2.2.2.2.2.2.2.2.2.2.2.2.1:=by
  cases q:kindB m.1 8
  ·rw [hm.tn q,hn.tn (by rw [← h1]; exact q)]
  ·exact hall 3 (i8' q)
 have e10:m.2.2.2.2.2.2.2.2.2.2.2.2.2.2=n.2.2.2.2.2.2.2.2.2.2.2.2.2.2:=by
  cases q:kindB m.1 9
  ·rw [hm.gd q,hn.gd (by rw [← h1]; exact q)]
  ·exact hall 10 (i9 q)
 unfold sameB
 rw [h1,h3,h5,e0,e1,e2.1,e2.2,e3,e4,e5,e6,e7,e8,e9,e10]
 simp
theorem same_eq {m n:MB} (h:sameB m n=true):m=n:=by
 obtain ⟨k,fr,to,sq,wh,ki,ks,nw,tb,ep,bo,ak,tk,tn,gd⟩:=m
 obtain ⟨k',fr',to',sq',wh',ki',ks',nw',tb',ep',bo',ak',tk',tn',gd'⟩:=n
 unfold sameB at h
 simp only [Bool.and_eq_true,decide_eq_true_eq,beq_iff_eq] at h
 obtain ⟨rfl,rfl,rfl,rfl,rfl,rfl,rfl,rfl,rfl,rfl,rfl,rfl,h,rfl,rfl⟩:=h
 rw [toList_inj h]
theorem same_txt {m n:MB} (gm:Giv m) (hm:May m) (gn:Giv n) (hn:May n):(txtO m==txtO n)=sameB m n:=by
 rw [Bool.eq_iff_iff,beq_iff_eq]
 exact ⟨txt_same gm hm gn hn,fun h=>by rw [same_eq h]⟩
theorem few_ok2 {k fr to sq wh ki ks ep bo ak tn:Int} {nw:List NW} {tb:List KW} {tk:ByteArray} {gd:Bool}:∃ (nw':List NW) (tb':List KW) (tk':ByteArray),F9 (k,fr,to,sq,wh,ki,ks,nw,tb,ep,bo,ak,tk,tn,gd)=some (k,fr,to,sq,wh,ki,ks,nw',tb',ep,bo,ak,tk',tn,gd)∧nw'.length≤9∧tb'.length≤65∧tk'.size≤21∧(∀ x ∈ nw',x ∈ nw)∧∀ x ∈ tb',x ∈ tb:=by
  rw [F9_eq]
  obtain ⟨nw',e1,l1,m1⟩:∃ nw':List NW,cond (decide (((nw.length:Nat):Int) > 9)) (cond (decide ((9:Int)≤((nw.length:Nat):Int))) (some (List.take 9 nw)) none) (some nw)=some nw'∧nw'.length≤9∧∀ x ∈ nw',x ∈ nw:=by
    by_cases h:nw.length > 9
    · exact ⟨nw.take 9,by rw [decide_eq_true (by omega),decide_eq_true (by omega)]; rfl,by rw [List.length_take]; omega,fun x hx=>List.mem_of_mem_take hx⟩
    · exact ⟨nw,by rw [decide_eq_false (by omega)]; rfl,by omega,fun x hx=>hx⟩
  obtain ⟨tb',e2,l2,m2⟩:∃ tb':List KW,cond (decide (((tb.length:Nat):Int) > 65)) (cond (decide ((65:Int)≤((tb.length:Nat):Int))) (some (List.take 65 tb)) none) (some tb)=some tb'∧tb'.length≤65∧∀ x ∈ tb',x ∈ tb:=by
    by_cases h:tb.length > 65
    · exact ⟨tb.take 65,by rw [decide_eq_true (by omega),decide_eq_true (by omega)]; rfl,by rw [List.length_take]; omega,fun x hx=>List.mem_of_mem_take hx⟩
    · exact ⟨tb,by rw [decide_eq_false (by omega)]; rfl,by omega,fun x hx=>hx⟩
  obtain ⟨tk',e3,l3⟩:∃ tk':ByteArray,cond (decide (((tk.size:Nat):Int) > 21)) (cond (decide ((21:Int)≤((tk.size:Nat):Int))) (some (ByteArray.extract tk 0 21)) none) (some tk)=some tk'∧tk'.size≤21:=by
    by_cases h:tk.size > 21
    · exact ⟨tk.extract 0 21,by rw [decide_eq_true (by omega),decide_eq_true (by omega)]; rfl,by rw [ByteArray.size_extract]; omega⟩
    · exact ⟨tk,by rw [decide_eq_false (by omega)]; rfl,by omega⟩
  refine ⟨nw',tb',tk',?_,l1,l2,l3,m1,m2⟩
  by_cases h1:nw.length > 9<;>by_cases h2:tb.length > 65<;>by_cases h3:tk.size > 21
  all_goals
    first
      | (have a1:((nw.length:Nat):Int) > 9:=by omega
         have b1:(9:Int)≤((nw.length:Nat):Int):=by omega
         rw [decide_eq_true a1,decide_eq_true b1] at e1)
      | (have a1:¬ ((nw.length:Nat):Int) > 9:=by omega
         rw [decide_eq_false a1] at e1)
    first
      | (have a2:((tb.length:Nat):Int) > 65:=by omega
         have b2:(65:Int)≤((tb.length:Nat):Int):=by omega
         rw [decide_eq_true a2,decide_eq_true b2] at e2)
      | (have a2:¬ ((tb.length:Nat):Int) > 65:=by omega
         rw [decide_eq_false a2] at e2)
    first
      | (have a3:((tk.size:Nat):Int) > 21:=by omega
         have b3:(21:Int)≤((tk.size:Nat):Int):=by omega
         rw [decide_eq_true a3,decide_eq_true b3] at e3)
      | (have a3:¬ ((tk.size:Nat):Int) > 21:=by omega
         rw [decide_eq_false a3] at e3)
    simp only [cond_true,cond_false,Option.some.injEq] at e1 e2 e3
    subst e1 e2 e3
    simp -implicitDefEqProofs only [a1,a2,a3,eq_self,xs]
    try simp only [decide_eq_true b1,cond_true,Option.bind_some]
    try simp only [decide_eq_true b2,cond_true,Option.bind_some]
    try simp only [decide_eq_true b3,cond_true,Option.bind_some]
    try simp only [*,decide_true,decide_false,cond_true,cond_false,Option.bind_some]
theorem few_giv {m:MB} (g:Giv m):∃ m':MB,F9 m=some m'∧m'.2.2.2.2.2.2.2.1.length≤9∧m'.2.2.2.2.2.2.2.2.1.length≤65∧m'.2.2.2.2.2.2.2.2.2.2.2.2.1.size≤21∧Giv m':=by
 obtain ⟨k,fr,to,sq,wh,ki,ks,nw,tb,ep,bo,ak,tk,tn,gd⟩:=m
 have key:∃ (nw':List NW) (tb':List KW) (tk':ByteArray),F9 (k,fr,to,sq,wh,ki,ks,nw,tb,ep,bo,ak,tk,tn,gd)=some (k,fr,to,sq,wh,ki,ks,nw',tb',ep,bo,ak,tk',tn,gd)∧nw'.length≤9∧tb'.length≤65∧tk'.size≤21∧(∀ x ∈ nw',x ∈ nw)∧∀ x ∈ tb',x ∈ tb:=by
  obtain ⟨nw',tb',tk',h,l1,l2,l3,h4⟩:=few_ok2 (k:=k) (fr:=fr) (to:=to) (sq:=sq) (wh:=wh) (ki:=ki) (ks:=ks) (ep:=ep) (bo:=bo) (ak:=ak) (tn:=tn) (nw:=nw) (tb:=tb) (tk:=tk) (gd:=gd)
  exact ⟨nw',tb',tk',h,l1,l2,l3,h4⟩
 obtain ⟨nw',tb',tk',h,l1,l2,l3,hn,ht⟩:=key
 exact ⟨_,h,l1,l2,l3,g.sq,g.ki,fun x hx=>g.nw x (hn x hx),fun x hx=>g.tb x (ht x hx),g.ep,g.bo,g.tn⟩
theorem F6_ok {a b:MB} (ga:Giv a) (gb:Giv b):F6 (a,b)=some true:=by
 obtain ⟨a',fa9,la1,la2,la3,ga'⟩:=few_giv ga
 obtain ⟨b',fb9,lb1,lb2,lb3,gb'⟩:=few_giv gb
 have fa:F17 ()=some true:=rfl
 have hsame:=rsame_eq a' b'
 rw [same_ok a' b' (by omega) (by omega)] at hsame
 rw [F6_eq]
 have n1:((1:Int) != 0)=true:=rfl
 have wr:∀ x:MB,Giv x→x.2.2.2.2.2.2.2.1.length≤9→x.2.2.2.2.2.2.2.2.1.length≤65→x.2.2.2.2.2.2.2.2.2.2.2.2.1.size≤21→(msgB x=true∧F10 x=some (mkB (txtO x),0))∨F10 x=some (ByteArray.mk #[],1):=by
  intro x g h1 h2 h3
  by_cases hm:msgB x=true
  ·exact .inl ⟨hm,write_ok g hm (by omega) (by omega) (max21 h3)⟩
  ·exact .inr (bad_write (by omega) (by omega) (max21 h3) (by rw [Bool.eq_false_iff]; exact hm)).1
 have ea:∀ x:MB,(x.1,x.2.1,x.2.2.1,x.2.2.2.1,x.2.2.2.2.1,x.2.2.2.2.2.1,x.2.2.2.2.2.2.1,x.2.2.2.2.2.2.2.1,x.2.2.2.2.2.2.2.2.1,x.2.2.2.2.2.2.2.2.2.1,x.2.2.2.2.2.2.2.2.2.2.1,x.2.2.2.2.2.2.2.2.2.2.2.1,x.2.2.2.2.2.2.2.2.2.2.2.2.1,x.2.2.2.2.2.2.2.2.2.2.2.2.2.1,x.2.2.2.2.2.2.2.2.2.2.2.2.2.2)=x:=fun x=>rfl
 rcases wr a' ga' la1 la2 la3 with ⟨ma,wa⟩ | wa<;>rcases wr b' gb' lb1 lb2 lb3 with ⟨mb,wb⟩ | wb
 ·have hs:=same_txt ga' (may_of ma) gb' (may_of mb)
  have ht:((mkB (txtO a')).toList==(mkB (txtO b')).toList)=sameB a' b':=by rw [mkB_toList,mkB_toList]; exact hs
  have hb:(sameB a' b'==sameB a' b')=true:=beq_self_eq_true _
  simp only [ea,fa9,fb9,wa,wb,Option.bind_some,nz0,cond_false,joinX_l,hsame,ht,hb,cond_true,fa]
 ·simp only [ea,fa9,fb9,wa,wb,Option.bind_some,nz0,n1,cond_false,cond_true,joinX_r,fa]
 ·simp only [ea,fa9,fb9,wa,wb,Option.bind_some,nz0,n1,cond_false,cond_true,joinX_r,fa]
 ·simp only [ea,fa9,fb9,wa,wb,Option.bind_some,nz0,n1,cond_false,cond_true,joinX_r,fa]
theorem giv_of {m:MB} (h:WfD (.p (.i .i64) (.p (.i .i64) (.p (.i .i64) (.p (.i .u64) (.p (.i .i64) (.p (.i .u64) (.p (.i .i64) (.p (.sl (.p (.i .i64) (.p (.i .u64) (.i .i64)))) (.p (.sl (.p (.i .u64) (.i .i64))) (.p (.i .u64) (.p (.i .u64) (.p (.i .i64) (.p .s (.p (.i .u64) .b)))))))))))))) m):Giv m:=by
 obtain ⟨_,_,_,h1,_,h2,_,h3,h4,h5,h6,_,_,h7,_⟩:=h
 exact ⟨h1,h2,fun x hx=>(h3.2 x hx).2.1,fun x hx=>(h4.2 x hx).1,h5,h6,h7⟩
end Go.Proofs.Ytgbcankkfmhcoaa.VL
end
