import Derived.Test.YthidhledenklhaaGreatW3Za
namespace Go.Proofs.YthidhledenklhaaGreat.VL
open Go
set_option linter.unusedVariables false
set_option linter.unusedSectionVars false
set_option linter.unusedSimpArgs false
set_option maxRecDepth 100000
variable [Val]
theorem sameW_refl (a:WB):sameW a a=true:=sameW_iff.2 rfl
theorem takeR_sz {h e:Int} (hh:e=0→1≤h∧h≤1000001) {w:WB} (hz:SzW w) (now:Int) (m:MB):SzW (takeR h e w now m).1:=by
 cases hg:okT h e w now m
 ·rw [(takeR_bad hg).2]; exact hz
 ·rw [takeR_good hg]
  have t:=(took_of hg).2
  exact (t.work (hh t.e0)).sz
theorem endR_sz {w:WB} (hz:SzW w) (now:Int) (tk:ByteArray) (gd:Bool):SzW (endR w now tk gd).1:=by
 cases h1:(workB w&&momB now)
 ·unfold endR; rw [h1,if_neg (by decide)]; exact hz
 ·rw [Bool.and_eq_true] at h1
  have hW:=(work_iff w).1 h1.1
  rcases end_cases hW h1.2 tk gd with ⟨n,e,_,hq⟩ | ⟨j,hj,hq⟩
  ·rw [hq]; exact hz
  ·rw [hq]
   obtain ⟨d1,_⟩:=del_mem hW.j.srt hj
   obtain ⟨jm,je⟩:=lkn_key hj
   have je':j.1=tk:=je
   obtain ⟨_,x,k1,_⟩:=okJ_known (hW.oj j jm)
   rw [je'] at k1
   have hs:=shelf_put (x:=(tk,j.2.1,true,gd)) hW.k (by rw [← je']; exact hW.j.nms j jm) (fun q=>absurd (q.symm.trans k1) (by simp))
   have hd:=shelf_sub hW.j d1
   exact ⟨by have:=hd.len; simp only; omega,by have:=hs.len; simp only; omega,fun x hx=>nm_sz (hd.nms x hx),fun x hx=>nm_sz (hs.nms x hx)⟩
theorem F7_ok {T1 T2 T3 wb now:Int} {js:List JB} {ks:List KB} {m:MB} {tx:ByteArray} {gd:Bool} (hj:js.length≤maxLen) (hk:ks.length≤maxLen) (hjn:∀ x ∈ js,x.1.size≤maxLen) (hkn:∀ x ∈ ks,x.1.size≤maxLen)
  (hmk:m.2.2.2.2.2.2.2.2.2.2.2.2.1.size≤maxLen) :
  F7 (T1,T2,T3,wb,js,ks,now,m.1,m.2.1,m.2.2.1,m.2.2.2.1,m.2.2.2.2.1,m.2.2.2.2.2.1,m.2.2.2.2.2.2.1,m.2.2.2.2.2.2.2.1,m.2.2.2.2.2.2.2.2.1,m.2.2.2.2.2.2.2.2.2.1,m.2.2.2.2.2.2.2.2.2.2.1,m.2.2.2.2.2.2.2.2.2.2.2.1,m.2.2.2.2.2.2.2.2.2.2.2.2.1,m.2.2.2.2.2.2.2.2.2.2.2.2.2.1,m.2.2.2.2.2.2.2.2.2.2.2.2.2.2,tx,gd)=some true:=by
 rw [F7_eq]
 obtain ⟨js',ks',h8,hz⟩:=F8_ok (w:=(wb,js,ks)) hj hk hjn hkn
 obtain ⟨n,h9,n1,n2,n3⟩:=F9_ok m hmk
 obtain ⟨h0,h13,hc⟩:=hold_eq T1 T2 T3
 have hx:∃ h e:Int,F27 (T1,T2,T3)=some (h,e)∧(e=0→1≤h∧h≤1000001)∧((h0=0∧e≠0)∨(e=0∧h0=h∧1≤h∧h≤1000000)):=by
  rcases hc with ⟨h1,g,e,h2,h3⟩ | ⟨h1,h2⟩
  ·exact ⟨g,e,h2,fun q=>absurd q h3,.inl ⟨h1,h3⟩⟩
  ·exact ⟨h0,0,h2,fun _=>by omega,.inr ⟨rfl,rfl,h1.1,h1.2⟩⟩
 obtain ⟨h,e,h27,hh,hc⟩:=hx
 have h10:=F10_ok (now:=now) (m:=n) h27 hh hz (by omega) (by omega) n3
 have h20:=F20_ok (now:=now) (m:=n) h13 hc hz (by omega) (by omega) n3
 have sA:=takeR_sz hh hz now n
 have h15:=F15_ok (now:=now) (tk:=tx) (gd:=gd) hz
 have h23:=F23_ok (now:=now) (tk:=tx) (gd:=gd) hz
 have sE:=endR_sz hz now tx gd
 have h16:=F16_ok (now:=now) hz
 have h19:=F19_ok (now:=now) hz
 have h17:=F17_ok hz
 have h21:=F21_ok hz
 have h24:=F24_ok now
 have h25:=F25_ok (wb:=wb) (now:=now) (js:=js') (ks:=ks') hz.j
 have h12:=F12_ok
 generalize takeR h e (wb,js',ks') now n=A at *
 generalize endR (wb,js',ks') now tx gd=E at *
 obtain ⟨⟨a1,a2,a3⟩,ae⟩:=A
 obtain ⟨⟨e1,e2,e3⟩,en,ee⟩:=E
 simp only at sA sE
 have hAA:=F11_ok (b:=(a1,a2,a3)) sA
 rw [sameW_refl] at hAA
 have hEE:=F11_ok (b:=(e1,e2,e3)) sE
 rw [sameW_refl] at hEE
 have hWA:=F11_ok (b:=(a1,a2,a3)) hz
 have hWA2:=F22_ok (b:=(a1,a2,a3)) hz
 have hWW:=F11_ok (b:=(wb,js',ks')) hz
 rw [sameW_refl] at hWW
 have hm15:∀ m:MB,(m.1,m.2.1,m.2.2.1,m.2.2.2.1,m.2.2.2.2.1,m.2.2.2.2.2.1,m.2.2.2.2.2.2.1,m.2.2.2.2.2.2.2.1,m.2.2.2.2.2.2.2.2.1,m.2.2.2.2.2.2.2.2.2.1,m.2.2.2.2.2.2.2.2.2.2.1,m.2.2.2.2.2.2.2.2.2.2.2.1,m.2.2.2.2.2.2.2.2.2.2.2.2.1,m.2.2.2.2.2.2.2.2.2.2.2.2.2.1,m.2.2.2.2.2.2.2.2.2.2.2.2.2.2)=m:=fun _=>rfl
 have hv:((if workB (wb,js',ks')=true then (0:Int) else 1)==0)=workB (wb,js',ks'):=by cases workB (wb,js',ks')<;>rfl
 have b1:∀ b:Bool,(b==b)=true:=by decide
 obtain ⟨kd,fr,to,sq,wh,ki,kt,nw,tb,ep,bt,ak,tk,tn,gg⟩:=m
 obtain ⟨nkd,nfr,nto,nsq,nwh,nki,nkt,nnw,ntb,nep,nbt,nak,ntk,ntn,ngg⟩:=n
 unfold dropR at h16
 generalize sameW (wb,js',ks') (a1,a2,a3)=c1 at *
 simp -implicitDefEqProofs only [h8,h9,h10,h20,hAA,bne_self_eq_false,h17,h21,hv,b1,hWA,hWA2,h15,h23,hEE,eq_self,xs]
 simp only at h16 h19 h21 h24 h25 hWW hz
 have hlf:(js'.filter (runB now)).length≤1000:=Nat.le_trans (List.length_filter_le _ _) hz.j
 have sF:SzW (wb,js'.filter (runB now),ks'):=⟨hlf,hz.k,fun x hx=>hz.jn x (List.mem_filter.1 hx).1,hz.kn⟩
 have hFF:=F11_ok (b:=(wb,js'.filter (runB now),ks')) sF
 rw [sameW_refl] at hFF
 have h26:=F26_ok hlf
 have y1:((1:Int)==1)=true:=rfl
 have y0:((0:Int)==0)=true:=rfl
 cases hB:(workB (wb,js',ks')&&momB now)
 ·rw [hB,if_neg (by decide)] at h16 h19
  have hor:(bif !workB (wb,js',ks') then some true else (F24 now).bind fun v19=>some !v19)=some true:=by
   rw [h24]
   revert hB
   cases workB (wb,js',ks')<;>cases momB now<;>intro hB<;>first | rfl | (cases hB)
  rw [hor]
  simp -implicitDefEqProofs only [h16,h19,hWW,y1,h12,eq_self,xs]
  rfl
 ·rw [hB,if_pos rfl] at h16 h19
  have hor:(bif !workB (wb,js',ks') then some true else (F24 now).bind fun v19=>some !v19)=some false:=by
   rw [h24]
   revert hB
   cases workB (wb,js',ks')<;>cases momB now<;>intro hB<;>first | rfl | (cases hB)
  rw [hor]
  simp -implicitDefEqProofs only [h16,h19,h25,hFF,h26,y0,h12,eq_self,xs]
end Go.Proofs.YthidhledenklhaaGreat.VL
