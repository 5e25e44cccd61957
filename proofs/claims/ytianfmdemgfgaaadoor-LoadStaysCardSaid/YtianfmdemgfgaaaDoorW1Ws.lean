import Derived.Test.YtianfmdemgfgaaaDoorW1Vv
import Derived.Test.YtianfmdemgfgaaaDoorW1Vx
import Derived.Test.YtianfmdemgfgaaaDoorW1Xc
import Derived.Shelf.SlSortCmp.NoneTotal
namespace Go.Proofs.YtianfmdemgfgaaaDoor.VL
open Go
set_option linter.unusedVariables false
set_option linter.unusedSimpArgs false
set_option linter.unusedSectionVars false
variable [Val]
section
variable {C:Ctx} {st:St} {a:Act} {E:Env}
theorem InvE.upd2 (I:InvE C st a E) {b s:Nat} {k k':Blk} {en:Ent} (A:At E st.h b s k en) {w':World}
  (hos:w'.os=E.w.os) (htape:w'.tape=E.w.tape) (hout:w'.output=E.w.output) (hsize:E.w.heap.size≤w'.heap.size)
  (hw:∀ r,r < E.w.heap.size→(en.tot≠0∧r=en.rb)∨w'.heap[r]?=E.w.heap[r]?)
  (hB:E.le ⟨w',E.σ,E.S⟩→BRep ⟨w',E.σ,E.S⟩ en k') (hdr:E.w.drawn≤w'.drawn) :
  InvE C ⟨st.t,st.h.set b (some (s,k')),st.n⟩ a ⟨w',E.σ,E.S⟩:=by
 have hlt:b < st.h.length:=(List.getElem?_eq_some_iff.1 A.slot).1
 have keep:∀ r,r < E.w.heap.size→(en.tot≠0→r≠en.rb)→w'.heap[r]?=E.w.heap[r]?:=fun r hr h=>(hw r hr).resolve_left fun ⟨h0,he⟩=>h h0 he
 have hle:E.le ⟨w',E.σ,E.S⟩:=⟨fun _ h=>h,fun r hr=>keep r (I.good.stay r hr) fun h0 he=>(A.brep I.good).2 h0 (he ▸ hr),fun _ _ h=>h⟩
 have back:∀ (b' s':Nat) (k2:Blk) (en':Ent),At ⟨w',E.σ,E.S⟩ (st.h.set b (some (s,k'))) b' s' k2 en'→∃ k0,At E st.h b' s' k0 en':=by
  intro b' s' k2 en' A'
  by_cases hbb:b=b'
  ·subst hbb
   have h1:=A'.slot
   simp [hlt] at h1
   obtain ⟨rfl,rfl⟩:=h1
   exact ⟨k,A.slot,A'.σ⟩
  ·have h1:=A'.slot
   rw [List.getElem?_set_ne hbb] at h1
   exact ⟨k2,h1,A'.σ⟩
 refine I.step hle hos htape hout hsize (fun r h=>.inl h) (fun r hr hne=>keep r hr fun h0 he=>hne b s k en A h0 he.symm) ⟨I.good.free,?_,?_,?_⟩ ?_ hdr
 ·intro b' s' k2 hb'
  by_cases hbb:b=b'
  ·subst hbb
   simp [hlt] at hb'
   obtain ⟨rfl,rfl⟩:=hb'
   exact ⟨en,⟨by simp [hlt],A.σ⟩,hB hle,(A.brep I.good).2⟩
  ·have h1:=hb'
   rw [List.getElem?_set_ne hbb] at h1
   obtain ⟨en',A',h2,h3⟩:=I.good.blk b' s' k2 h1
   refine ⟨en',⟨hb',A'.σ⟩,h2.mono hle (fun h0=>keep _ (A'.lt I.good h0) fun h1 he=>hbb (I.good.inj b b' s s' k k2 en en' A A' h1 h0 he.symm)),h3⟩
 ·intro b1 b2 s1 s2 k1 k2 en1 en2 A1 A2 h1 h2 he
  obtain ⟨k1',A1⟩:=back _ _ _ _ A1
  obtain ⟨k2',A2⟩:=back _ _ _ _ A2
  exact I.good.inj b1 b2 s1 s2 k1' k2' en1 en2 A1 A2 h1 h2 he
 ·intro r hr
  exact Nat.lt_of_lt_of_le (I.good.stay r hr) hsize
 ·intro b' s' k2 en' A' h0
  obtain ⟨k0,A0⟩:=back _ _ _ _ A'
  exact .inl ⟨b',s',k0,en',A0,h0,rfl⟩
end
theorem pure_grows {P:Program} {f:FuncId} {args:List PV} {x:Value} (h:VPure P f args (.v x)) (W:World) {vals:Array Value} (hs:vals.size=args.length)
  (hr:∀ (E:Env) (i:Nat) (p:PV) (u:Value),args[i]?=some p→vals[i]?=some u→Rep E p u) :
  Calls P f vals W fun e W'=>e=.returned x∧∃ q os,W'=Go.Sort.grow (W.drewN q) os:=by
 have he:(fun x:Nat=>([]:List Ent)[x]?)=fun _=>none:=by funext x; simp
 have no:∀ {b s:Nat} {k:Blk} {en:Ent},¬ At ⟨W,fun x:Nat=>([]:List Ent)[x]?,fun r=>r < W.heap.size⟩ (slots (([]:List Blk).map some) none) b s k en:=by
  intro b s k en A
  have:=A.σ
  simp at this
 refine (h.2.2.2 W (fun r=>r < W.heap.size) [] vals rfl ?_ hs (fun i p u hp hu=>hr _ i p u hp hu)).mono ?_
 ·refine { good:=⟨fun s _=>by simp,fun b s k hb=>?_,fun b b' s s' k k' en en' A=>absurd A no,fun r hr=>hr⟩,since:=⟨rfl,rfl,rfl,Nat.le_refl _,fun _ _ _=>rfl,fun _ _ h=>h,fun _ h=>h,fun _ h=>.inl h,Nat.le_refl _⟩,touch:=fun b s k en A=>absurd A no,defers:=rfl,tsize:=rfl,tmps:=fun i p u hp=>by simp at hp }
  simp only [slots,List.map_nil,List.zipIdx_nil,List.nil_append,Option.map_none,List.length_nil] at hb
  cases b<;>simp at hb
 ·rintro e W' ⟨v,r',L',N,σ',S',rfl,rfl,hL,J,hR⟩
  refine ⟨by rw [rep_v hR],W'.drawn - W.drawn,W'.heap.extract W.heap.size W'.heap.size,?_⟩
  have h1:W'.os=W.os:=J.since.os
  have h2:W'.tape=W.tape:=J.since.tape
  have h3:W'.output=W.output:=J.since.output
  have h4:W.heap.size≤W'.heap.size:=J.since.size
  have h5:W.drawn≤W'.drawn:=J.since.drawn
  have h6:∀ k,k < W.heap.size→W'.heap[k]?=W.heap[k]?:=fun k hk=>J.since.kept k hk fun hT=>by
   obtain ⟨i,en,hi,_⟩:=hT
   simp at hi
  have h7:W'.heap=W.heap++W'.heap.extract W.heap.size W'.heap.size:=by
   apply Array.ext_getElem?
   intro i
   rw [Array.getElem?_append]
   split
   ·rename_i hi; exact h6 i hi
   ·rename_i hi
    rw [Array.getElem?_extract]
    split
    ·congr 1; omega
    ·rename_i hj; exact Array.getElem?_eq_none (by omega)
  have h8:W.drawn+(W'.drawn - W.drawn)=W'.drawn:=by omega
  cases W with | mk hp tp dr os out =>
  cases W' with | mk hp' tp' dr' os' out' =>
  simp only [Go.Sort.grow,World.drewN] at *
  subst h1 h2 h3
  rw [h8,← h7]
def flatW:(t:TT)→t.den→List Value
 | .i k,n=>[.int k n]
 | .b,x=>[.bool x]
 | .s,x=>[.string x]
 | .p x y,v=>flatW x v.1++flatW y v.2
 | .sl _,_=>[]
 | .ar _,_=>[]
def flatV:TT→Bool
 | .i _=>true
 | .b=>true
 | .s=>true
 | .p x y=>flatV x&&flatV y
 | .sl _=>false
 | .ar _=>false
theorem flat_cells:∀ {t:TT} (v:t.den),flatV t=true→(enc t v).cells=(flatW t v).map PV.v
 | .i k,v,_=>rfl
 | .b,v,_=>rfl
 | .s,v,_=>rfl
 | .p x y,v,h=>by
  simp only [flatV,Bool.and_eq_true] at h
  show (enc x v.1).cells++(enc y v.2).cells=(flatW x v.1++flatW y v.2).map PV.v
  rw [flat_cells v.1 h.1,flat_cells v.2 h.2,List.map_append]
theorem flat_one:∀ {t:TT} (v:t.den),∀ u ∈ flatW t v,u.oneCell'=true
 | .i k,v,u,h=>by simp [flatW] at h; subst h; rfl
 | .b,v,u,h=>by simp [flatW] at h; subst h; rfl
 | .s,v,u,h=>by simp [flatW] at h; subst h; rfl
 | .p x y,v,u,h=>by
  simp only [flatW,List.mem_append] at h
  rcases h with h | h
  ·exact flat_one v.1 u h
  ·exact flat_one v.2 u h
 | .sl _,v,u,h=>by simp [flatW] at h
 | .ar _,v,u,h=>by simp [flatW] at h
theorem flat_noAr:∀ {t:TT},flatV t=true→noAr t=true
 | .i k,_=>rfl
 | .b,_=>rfl
 | .s,_=>rfl
 | .p x y,h=>by
  simp only [flatV,Bool.and_eq_true] at h
  simp only [noAr,flat_noAr h.1,flat_noAr h.2,Bool.and_self]
theorem flat_len {t:TT} (v:t.den) (h:flatV t=true):(flatW t v).length=wid t:=by
 rw [← wid_cells v (flat_noAr h),flat_cells v h,List.length_map]
def sortL {α:Type} (cf:α→α→Int) (l:List α):List α:=l.mergeSort fun x y=>!(Go.Proofs.ltOf cf) y x
theorem sortL_len {α:Type} (cf:α→α→Int) (l:List α):(sortL cf l).length=l.length:=(List.mergeSort_perm _ _).length_eq
structure SortF (P:Program) (f k g:Nat) (x y:TT) (cf:(TT.p x y).den→(TT.p x y).den→Int):Prop where
 can:callable P f=true
 can2:callable P g=true
 lays:∃ ρ:Go.Shelf.Ren,SlLaysF0.n6 P ρ∧ρ.f 6=f∧(∀ w,(isAgg (ρ.t 24)).run P w=.ok true w)∧(∀ w,(Go.sizeOf (ρ.t 24)).run P w=.ok k w)
 fl:flatV (.p x y)=true
 wd:wid (.p x y)=k
 cmp:∀ a b,VPure P g [enc (.p x y) a,enc (.p x y) b] (.v (.int .i64 (cf a b)))
 swo:Go.Sort.SWO (Go.Proofs.ltOf cf)
 tot:∀ a b,(Go.Proofs.ltOf cf) a b=false→(Go.Proofs.ltOf cf) b a=false→a=b
theorem enters_callable {P:Program} {f:FuncId} (hf:callable P f=true) (args:Array Value) (w:World):(callFunc f args).run P w=.ok (.enter f args) w:=by
 unfold callable at hf
 cases hfn:P.funcs[f]? with
 | none=>rw [hfn] at hf; cases hf
 | some fn =>
  rw [hfn] at hf
  simp only [bne_iff_ne,ne_eq,Bool.and_eq_true,Bool.not_eq_true'] at hf
  have h1:¬ (fn.name = "runtime.NumGoroutine"):=by simpa using hf.1
  have h2:¬ (fn.body=none):=by intro h; rw [h] at hf; simp at hf
  simp [callFunc,hfn,h1,h2]
theorem sort_gcall {P:Program} {f k g:Nat} {x y:TT} {cf:(TT.p x y).den→(TT.p x y).den→Int} (H:SortF P f k g x y cf) {h:List Slot} {b st n:Nat} {cap:Option Nat} {l:List (TT.p x y).den}
  (hb:h[b]?=some (some (st,.cells (l.map (enc (.p x y)))))) (hlen:l.length < 4611686018427387904) :
  GCall P f [.own b st k 0 l.length cap,.clo g [] []] h n (.tup []) (h.set b (some (st,.cells ((sortL cf l).map (enc (.p x y)))))) n:=by
 refine ⟨H.can,fun C t a E vals I hvs hr=>?_⟩
 obtain ⟨ρ,L,rfl,aE,zE⟩:=H.lays
 obtain ⟨u0,u1,rfl⟩:∃ u0 u1,vals=#[u0,u1]:=by
  cases vals with | mk vs =>
  match vs,hvs with
  | [u0,u1],_=>exact ⟨u0,u1,rfl⟩
 have r0:=hr 0 _ u0 rfl rfl
 have r1:=hr 1 _ u1 rfl rfl
 cases r1 with | clo _ _ _ us vs hk1 _ hl1 _ =>
 obtain rfl:us=#[]:=by simpa using hk1
 obtain rfl:vs=#[]:=by simpa using hl1
 cases r0 with | own _ _ _ _ _ en c ad hσ ha hn hlc hc htot hcap =>
 obtain ⟨en',A,B,nS⟩:=I.good.blk b st _ hb
 obtain rfl:en=en':=by have:=A.σ; rw [hσ] at this; cases this; rfl
 obtain ⟨B1,B2,B3,B4⟩:=B
 by_cases hl0:l=[]
 ·subst hl0
  refine (AnyF.slices_SortFunc_none (P:=P) (ρ:=ρ) L ad c (.func (.func g) #[] #[]) E.w).mono ?_
  rintro e w' ⟨rfl,rfl⟩
  refine ⟨_,E,rfl,rfl,?_,.tup [] #[] rfl (fun i c u h=>by simp at h)⟩
  have:h.set b (some (st,.cells ((sortL cf ([]:List (TT.p x y).den)).map (enc (.p x y)))))=h:=by
   have hlt:=(List.getElem?_eq_some_iff.1 hb).1
   refine List.ext_getElem? fun i=>?_
   rw [List.getElem?_set]
   split
   ·rename_i hi; subst hi
    rw [hb]
    simp [hlt,sortL]
   ·rfl
  rw [this]
  exact I
 have hpos:0 < l.length:=List.length_pos_iff.2 hl0
 have hc0:c≠0:=by omega
 have ht0:en.tot≠0:=by omega
 obtain rfl:=ha hc0
 obtain ⟨arr,ty,hheap,hasz,hcell,hone⟩:=B4 ht0
 simp only [Nat.zero_mul,Nat.add_zero]
 have hfl:=H.fl
 have hwd:=H.wd
 have hkl:∀ v,(flatW (.p x y) v).length=en.sz:=fun v=>(flat_len v hfl).trans hwd
 haveI:Inhabited (TT.p x y).den:=⟨l.head hl0⟩
 have hlmax:l.length * en.sz≤en.tot * en.sz:=Nat.mul_le_mul_right _ (by omega)
 have hH:Go.Sort.HoldsK (flatW (.p x y)) en.sz E.w en.rb en.base l.toArray:=by
  intro j hj
  simp only [Go.Sort.size_flatK,List.size_toArray] at hj
  refine ⟨?_,by simp [World.frozen?,hheap]⟩
  rw [Go.Sort.get_flatK _ _ _ _ (by simpa using hj)]
  have hi:j / en.sz < l.length:=Nat.div_lt_of_lt_mul (by rw [Nat.mul_comm]; exact hj)
  have hm:j % en.sz < en.sz:=Nat.mod_lt _ B2
  have h1:(l.map (enc (.p x y)))[j / en.sz]?=some (enc (.p x y) l[j / en.sz]):=by simp [hi]
  have h2:(enc (.p x y) l[j / en.sz]).cells[j % en.sz]?=some (.v ((flatW (.p x y) l[j / en.sz])[j % en.sz]'(by rw [hkl]; exact hm))):=by
   rw [flat_cells _ hfl,List.getElem?_map,List.getElem?_eq_getElem (by rw [hkl]; exact hm)]
   rfl
  obtain ⟨u,hu,hrep⟩:=hcell _ _ _ _ h1 h2
  have:=rep_v hrep
  subst this
  have e1:en.base+j / en.sz * en.sz+j % en.sz=en.base+j:=by
   have:=Nat.div_add_mod j en.sz
   rw [Nat.mul_comm] at this
   omega
  rw [e1] at hu
  simp only [World.cell?,hheap,hu,id,Option.isSome_none,Bool.false_eq_true,if_false]
  congr 1
  rw [getElem!_pos _ _ (by rw [getElem!_pos l.toArray _ (by simpa using hi)]; rw [hkl]; exact hm)]
  simp [hi]
 have hblk:en.rb < E.w.heap.size:=(Array.getElem?_eq_some_iff.1 hheap).1
 have hC:CmpLays P g #[] (flatW (.p x y)) en.sz cf en.rb en.base l.toArray.size E.w:=by
  intro m os dk hdk p q
  have:=pure_grows (H.cmp p q) (sortWorldK (flatW (.p x y)) en.sz E.w en.rb en.base m dk os) (vals:=#[.agg (flatW (.p x y) p).toArray,.agg (flatW (.p x y) q).toArray]) rfl ?_
  ·exact this
  ·intro E2 i pv u hp hu
   have key:∀ v:(TT.p x y).den,Rep E2 (enc (.p x y) v) (.agg (flatW (.p x y) v).toArray):=by
    intro v
    have e1:enc (.p x y) v=.agg ((flatW (.p x y) v).map PV.v):=by rw [← flat_cells v hfl]; rfl
    rw [e1]
    refine .agg _ _ (by simp) (fun i u hu=>?_) (fun i c u hc hu=>?_)
    ·exact flat_one v u (by simp at hu; exact List.mem_of_getElem? hu)
    ·simp only [List.getElem?_map,Option.map_eq_some_iff] at hc
     obtain ⟨z,hz,rfl⟩:=hc
     simp only [List.getElem?_toArray] at hu
     rw [hz] at hu; cases hu
     exact .v _
   match i,hp,hu with
   | 0,hp,hu=>simp at hp hu; subst hp hu; exact key p
   | 1,hp,hu=>simp at hp hu; subst hp hu; exact key q
 have hres:=AnyQ.slices_SortFunc_total (P:=P) (ρ:=ρ) L en.sz aE zE (flatW (.p x y)) hkl (fun v=>flat_one v) cf H.swo g #[] en.rb en.base c l.toArray E.w (enters_callable H.can2) hC hH hblk (by simpa using hlen) H.tot
 refine (show Calls P (ρ.f 6) #[.slice (some ⟨en.rb,en.base,none⟩) l.length c,.func (.func g) #[] #[]] E.w _ by simpa using hres).mono ?_
 rintro e w' ⟨rfl,m,os,rfl⟩
 let s:=sortL cf l
 have hsl:s.length=l.length:=sortL_len cf l
 refine ⟨_,⟨_,E.σ,E.S⟩,rfl,rfl,?_,.tup [] #[] rfl (fun i c u h=>by simp at h)⟩
 have hheap':∀ r,r < E.w.heap.size→(sortWorldK (flatW (.p x y)) en.sz E.w en.rb en.base m s.toArray os).heap[r]?=if r=en.rb then some (.cells (Go.Sort.putCells id en.base (Go.Sort.flatK (flatW (.p x y)) en.sz s.toArray) arr) ty (0,0)) else E.w.heap[r]?:=by
  intro r hr
  simp only [sortWorldK,Go.Sort.grow,Go.Sort.putRowK,Go.Sort.putRow,Go.Sort.mapBlock,Go.Sort.ahead]
  rw [Array.getElem?_append_left (by simpa using hr),Array.getElem?_modify]
  by_cases h1:r=en.rb
  ·subst h1
   rw [if_pos rfl,if_pos rfl,hheap]
   rfl
  ·rw [if_neg (Ne.symm h1),if_neg h1]
 refine I.upd2 A rfl rfl rfl ?_ ?_ ?_ ?_
 ·simp only [sortWorldK,Go.Sort.grow,Go.Sort.putRowK,Go.Sort.putRow,Go.Sort.mapBlock,Go.Sort.ahead]
  simp
 ·intro r hr
  by_cases h1:r=en.rb
  ·exact .inl ⟨ht0,h1⟩
  ·right
   have:=hheap' r hr
   rw [if_neg h1] at this
   exact this
 ·intro hle
  refine ⟨by simp only [List.length_map]; rw [sortL_len]; omega,B2,fun i e he=>?_,fun _=>⟨_,ty,(hheap' en.rb hblk).trans (if_pos rfl),by simp [Go.Sort.putCells,hasz],fun i e j cc he hj=>?_,fun i u hu=>?_⟩⟩
  ·simp only [List.getElem?_map,Option.map_eq_some_iff] at he
   obtain ⟨v,_,rfl⟩:=he
   rw [flat_cells v hfl,List.length_map,hkl]
  ·simp only [List.getElem?_map,Option.map_eq_some_iff] at he
   obtain ⟨v,hv,rfl⟩:=he
   rw [flat_cells v hfl,List.getElem?_map,Option.map_eq_some_iff] at hj
   obtain ⟨z,hz,rfl⟩:=hj
   have hj1:j < en.sz:=by rw [← hkl v]; exact (List.getElem?_eq_some_iff.1 hz).1
   have hi1:i < l.length:=by rw [← hsl]; exact (List.getElem?_eq_some_iff.1 hv).1
   have hij:i * en.sz+j < l.length * en.sz:=by
    have:=Nat.mul_le_mul_right en.sz (show i+1≤l.length from hi1)
    rw [Nat.add_mul,Nat.one_mul] at this
    omega
   refine ⟨z,?_,.v z⟩
   simp only [Go.Sort.putCells,Array.getElem?_mapIdx]
   have hin:en.base+i * en.sz+j < arr.size:=by rw [hasz]; omega
   rw [Array.getElem?_eq_getElem hin,Option.map_some]
   rw [if_pos ⟨by omega,by rw [Go.Sort.size_flatK]; simp only [List.size_toArray]; rw [hsl]; omega⟩]
   have e1:en.base+i * en.sz+j - en.base=i * en.sz+j:=by omega
   rw [e1,Go.Sort.get_flatK _ _ _ _ (by simp only [List.size_toArray]; rw [hsl]; exact hij)]
   have e2:(i * en.sz+j) / en.sz=i:=by rw [Nat.mul_comm,Nat.mul_add_div B2,Nat.div_eq_of_lt hj1,Nat.add_zero]
   have e3:(i * en.sz+j) % en.sz=j:=by rw [Nat.mul_comm,Nat.mul_add_mod,Nat.mod_eq_of_lt hj1]
   rw [e2,e3]
   have hv2:s.toArray[i]! = v:=by
    rw [getElem!_pos _ _ (by simp only [List.size_toArray]; rw [hsl]; exact hi1)]
    simp only [List.getElem_toArray]
    have:=(List.getElem?_eq_some_iff.1 hv).2
    exact this
   rw [hv2]
   obtain ⟨hz1,hz2⟩:=List.getElem?_eq_some_iff.1 hz
   rw [getElem!_pos (flatW (.p x y) v) j hz1]
   simp only [id]
   rw [hz2]
  ·simp only [Go.Sort.putCells,Array.getElem?_mapIdx,Option.map_eq_some_iff] at hu
   obtain ⟨z,hz,rfl⟩:=hu
   split
   ·rename_i hin
    rw [Go.Sort.size_flatK] at hin
    have hlt:i - en.base < s.toArray.size * en.sz:=by omega
    rw [Go.Sort.get_flatK _ _ _ _ hlt]
    have hm:(i - en.base) % en.sz < en.sz:=Nat.mod_lt _ B2
    show ((flatW (.p x y) s.toArray[(i - en.base) / en.sz]!)[(i - en.base) % en.sz]!).oneCell'=true
    rw [getElem!_pos (flatW (.p x y) s.toArray[(i - en.base) / en.sz]!) ((i - en.base) % en.sz) (by rw [hkl]; exact hm)]
    exact flat_one _ _ (List.getElem_mem _)
   ·exact hone i z hz
 ·simp only [sortWorldK,Go.Sort.grow,Go.Sort.putRowK,Go.Sort.putRow,Go.Sort.mapBlock,Go.Sort.ahead]
  omega
end Go.Proofs.YtianfmdemgfgaaaDoor.VL
