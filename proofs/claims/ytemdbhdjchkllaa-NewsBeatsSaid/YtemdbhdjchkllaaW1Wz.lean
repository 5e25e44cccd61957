import Derived.Test.YtemdbhdjchkllaaW1Wa
import Derived.Laws.Externs
namespace Go.Proofs.Ytemdbhdjchkllaa.VL
open Go
set_option linter.unusedVariables false
set_option linter.unusedSimpArgs false
set_option linter.unusedSectionVars false
variable [Val]
variable {P:Program} {C:Ctx} {st:St} {a:Act} {E:Env} {K:PV→List Slot→Nat→Prop} {o:Oper}
theorem run_apz_new {t t' e ty:TypeId} {k k':IntKind} {ie:TypeInfo} {z:Value} (ht:P.underlying t=some (.slice e)) (ht':P.underlying t'=some (.int k)) (hi:P.info? e=some ie) (hz:ie.zero=some z) {base:Option Addr} {sLen sCap m:Nat} {olds:List Value} {w:World}
  (hfo:(Builtin.firstCells ie.size sLen (.slice base sLen sCap)).run P w.drew=.ok olds.toArray w.drew)
  (hm:0 < m) (hs:0 < ie.size) (h:sCap < sLen+m) (h1:(sLen+m) * ie.bytes≤70368744177664) (h2:sLen+m≤70368744177664) :
  ∃ arr newCap,(Builtin.append_ #[t,t'] ty #[.slice base sLen sCap,.int k' (m:Int)]).run P w=.ok (.slice (some ⟨w.heap.size,0,none⟩) (sLen+m) newCap) (w.drew.alloc (.cells arr e))∧sLen+m≤newCap ∧
   arr=(olds++(Builtin.zeroCells z.cells m).toList).toArray++Builtin.zeroCells z.cells (newCap - (sLen+m)):=by
 have hn:¬ (sLen+m≤sCap):=by omega
 have hw:IntKind.i64.wrap (m:Int)=(m:Int):=by rw [IntKind.wrap_i64]; omega
 have h63':¬ (9223372036854775807 < ((sLen:Int)+(m:Int))):=by omega
 have h48':¬ (281474976710656 < Builtin.nextslicecap (sLen+m) sCap * ie.bytes):=by
  have:=growslice_fits (need:=sLen+m) (old:=sCap) (bytes:=ie.bytes) h (by omega)
  omega
 have hb:m * ie.bytes≤(sLen+m) * ie.bytes:=Nat.mul_le_mul_right _ (by omega)
 have h48:¬ (281474976710656 < (m:Int) * (ie.bytes:Int)):=by
  have:((m * ie.bytes:Nat):Int)≤70368744177664:=by omega
  rw [Int.natCast_mul] at this
  omega
 have hn0:¬ ((m:Int) < 0):=by omega
 have hm0:¬ (m=0):=by omega
 have hs0:¬ (ie.size=0):=by omega
 have hms:¬ (m * ie.size=0):=by have:=Nat.mul_pos hm hs; omega
 refine ⟨_,grownCap w (sLen+m) sCap e,?_,grownCap_ge w _ _ e,rfl⟩
 simp [Builtin.append_,run_underlying ht,run_underlying ht',sizeOf,typeInfo,zeroValue,hi,hz,asInt,asIntOf,hw,hn0,h48,hn,h63',h48',hm0,hs0,Question.forced,hfo,newRow,grownCap]
 rw [if_neg hms]
 congr 3
 apply Array.ext'
 simp
theorem rows_zero {z:Value} (hs:(cVal z).stor=true) {sz:Nat} (hsz:(cVal z).cells.length=sz) (m:Nat):Rows' E (List.replicate m (cVal z)) sz (Builtin.zeroCells z.cells m).toList:=by
 obtain ⟨c1,c2,c3⟩:=cVal_cells (E:=E) hs
 obtain ⟨z1,z2⟩:=zeroCells_one hs m
 refine ⟨by simp only [Array.length_toList,z1,hsz,List.length_replicate],fun x hx=>?_,fun i e j c he hc=>?_⟩
 ·obtain ⟨i,hi⟩:=List.getElem?_of_mem hx
  exact z2 i x (by simpa using hi)
 ·rw [List.getElem?_replicate] at he
  split at he
  ·rename_i hlt
   cases he
   have hj:j < sz:=by have:=(List.getElem?_eq_some_iff.1 hc).1; omega
   have hzs:z.cells.size=sz:=by rw [c1,hsz]
   have hlt2:i * sz+j < m * z.cells.size:=by
    rw [hzs]
    have:=Nat.mul_le_mul_right sz (show i+1≤m by omega)
    rw [Nat.add_mul] at this
    omega
   have hmod:(i * sz+j) % z.cells.size=j:=by
    rw [hzs,Nat.mul_comm,Nat.mul_add_mod,Nat.mod_eq_of_lt hj]
   refine ⟨z.cells[j]'(by omega),?_,c3 j c _ hc (by rw [Array.getElem?_eq_getElem (by omega)])⟩
   simp only [Builtin.zeroCells,Array.getElem?_toList,Array.getElem?_map,Array.getElem?_range,if_pos hlt2,Option.map_some,hmod]
   rw [getElem!_pos z.cells j (by omega)]
  ·cases he
theorem out_apz (I:InvE C st a E) {t t' e:TypeId} {k:IntKind} {ie:TypeInfo} {z:Value} {s:Nat} {x y:Operand} {x' y':Opd} {cl:Call} (ho:o.op=.call cl) (hcl:cl.callee=.builtin .append) (hargs:cl.args=#[x,y]) (hat:cl.argTypes=#[t,t'])
  (ht:P.underlying t=some (.slice e)) (ht':P.underlying t'=some (.int k)) (hi:P.info? e=some ie) (hz:ie.zero=some z) (hx:cOpd x=some x') (hy:cOpd y=some y')
  (hK:opK st.ev st.h st.n K (.apz s ie.size ie.bytes (cVal z) x' y')):Out P o C st a E K:=by
 have hrx:=ev_rep I hx
 have hry:=ev_rep I hy
 have exec:∀ {u v:Value} {r:Value} {w':World},a.eval x=u→a.eval y=v→(Builtin.append_ #[t,t'] o.type #[u,v]).run P E.w=.ok r w'→(execOp a.eval o).run P E.w=.ok (.value r) w':=by
  intro u v r w' hu hv hr
  simp [execOp,ho,resolve,hcl,hargs,hat,invoke,builtin,hu,hv,hr]
 simp only [opK] at hK
 split at hK
 case h_2=>exact hK.elim
 rename_i b sx sz' off len cap ky m hex hey
 rw [hex] at hrx
 rw [hey] at hry
 obtain ⟨g1,g2,rfl,g3,g4,g5,g6,k3,k4,es,k1,k2,hK⟩:=hK
 obtain ⟨m,rfl⟩:∃ n:Nat,m=n:=⟨m.toNat,by omega⟩
 simp only [Int.toNat_natCast] at g6 k3 k4 hK
 have hv:=rep_v hry
 obtain ⟨en,c,ad0,hu,hσ,hsz,had,hn,hlen,hc,htot,hcapn⟩:=rep_own hrx
 obtain rfl:=hc cap rfl
 have A:At E st.h b sx (.cells es) en:=⟨k1,hσ⟩
 obtain ⟨⟨b1,b2,b3,b4⟩,_⟩:=A.brep I.good
 have hsub:∀ e ∈ (es.drop off).take len,e.cells.length=ie.size:=by
  intro e he
  have:=List.mem_of_mem_take he
  have:=List.mem_of_mem_drop this
  obtain ⟨i,hi',rfl⟩:=List.getElem_of_mem this
  rw [b3 i _ (List.getElem?_eq_getElem hi')]; exact hsz
 obtain ⟨ad1,m1,hu1,hrows1⟩:=elems_cells (P:=P) I hrx (ys:=(es.drop off).take len) (by simp [elems,k1,k2]) hsub g2
 have hl:((es.drop off).take len).length=len:=by simp; omega
 obtain ⟨olds,hRo,hfo⟩:=hrows1 len (by omega)
 rw [List.take_of_length_le (by omega)] at hRo
 rw [hu] at hu1
 injection hu1 with e1 e2 e3
 subst e1; subst e3
 rw [hu] at hfo
 have q2:((es.drop off).take len++List.replicate m (cVal z)).length=len+m:=by simp; omega
 obtain ⟨arr,newCap,hrun,hcap,harr⟩:=run_apz_new (ty:=o.type) (P:=P) (k':=ky) ht ht' hi hz (hfo E.w.drew rfl) (by omega) g2 g6 k3 k4
 have hzr:∀ e ∈ List.replicate m (cVal z),e.cells.length=ie.size:=by
  intro e he
  rw [(List.mem_replicate.1 he).2]; exact g3
 have I':=I.appBlk g1 (e:=e) (newCap:=newCap) g2 g4 g3 (hRo.append (rows_zero g4 g3 m) hsub) (fun e he=>(List.mem_append.1 he).elim (hsub e) (hzr e)) (by rw [q2]; exact hcap)
 rw [q2] at I'
 subst harr
 refine ⟨_,_,_,hK,_,_,_,exec (w':=(Env.w _)) hu hv hrun,.inl rfl,I',?_⟩
 have:=Rep.own (E:=⟨E.w.drew.alloc (.cells ((olds++(Builtin.zeroCells z.cells m).toList).toArray++Builtin.zeroCells z.cells (newCap - (len+m))) e),giveAt E.σ st.n ⟨E.w.heap.size,0,ie.size,newCap⟩,E.S⟩) s st.n 0 (len+m) none ⟨E.w.heap.size,0,ie.size,newCap⟩ newCap (some ⟨E.w.heap.size,0,none⟩) (by simp [giveAt]) (fun _=>by simp) (by simp) hcap (by simp) (by simp) (by simp)
 exact this
def ovlF (P:Program) (f:FuncId):Bool:=match P.funcs[f]? with
 | some fn=>fn.body.isNone&&(fn.origin == "slices.overlaps" && (!(fn.name == "runtime.NumGoroutine")&&((Extern.findNext fn).isNone &&
   ((Extern.allGenericRows.lookup fn.name).isNone&&((Extern.allTypedRows.lookup fn.name).isNone&&((Extern.allRows.lookup fn.name).isNone &&
    (match fn.params[0]? with | some t=>(match P.underlying t with | some (.slice e)=>(match P.info? e with | some i=>i.size != 0 | none=>false) | _=>false) | none=>false)))))))
 | none=>false
theorem find_ovl {fn:Func} (ho:fn.origin = "slices.overlaps") (h1:(Extern.allGenericRows.lookup fn.name).isNone=true) (h2:(Extern.allTypedRows.lookup fn.name).isNone=true) (h3:(Extern.allRows.lookup fn.name).isNone=true) :
  Extern.find fn=some (Extern.SlicesOverlaps.overlaps fn.params fn.resultTypes):=by
 have e0:Extern.allGenericRows.lookup "slices.overlaps" = none:=by kernel_rfl
 have e1:Extern.allTypedRows.lookup "slices.overlaps" = some Extern.SlicesOverlaps.overlaps:=by kernel_rfl
 unfold Extern.find
 simp only [Option.isNone_iff_eq_none] at h1 h2 h3
 simp only [h1,h2,h3,ho,e0,e1,Option.map_none,Option.map_some,Option.orElse_eq_orElse,Option.orElse_eq_or,Option.none_or,Option.some_or]
theorem out_ovl (I:InvE C st a E) {f:FuncId} {x y:Operand} {x' y':Opd} {cl:Call} (ho:o.op=.call cl) (hcl:cl.callee=.value (.func f)) (hargs:cl.args=#[x,y]) (hf:ovlF P f=true)
  (hx:cOpd x=some x') (hy:cOpd y=some y') (hK:opK st.ev st.h st.n K (.ovl x' y')):Out P o C st a E K:=by
 have hrx:=ev_rep I hx
 have hry:=ev_rep I hy
 unfold ovlF at hf
 split at hf
 case h_2=>cases hf
 rename_i fn hfn
 simp only [Bool.and_eq_true,beq_iff_eq,Bool.not_eq_true'] at hf
 obtain ⟨f1,f2,f3,f4,f5,f6,f7,f8⟩:=hf
 split at f8
 case h_2=>cases f8
 rename_i t hpar
 split at f8
 case h_2=>cases f8
 rename_i e hu
 split at f8
 case h_2=>cases f8
 rename_i ie hi
 have hs0:ie.size≠0:=by simpa using f8
 simp only [opK] at hK
 split at hK
 case h_2=>exact hK.elim
 rename_i c e0 es b s sz off len cap hex hey
 rw [hex] at hrx
 rw [hey] at hry
 obtain ⟨⟨es',hslot⟩,hK⟩:=hK
 have run:(Extern.SlicesOverlaps.overlaps fn.params fn.resultTypes #[a.eval x,a.eval y]).run P E.w=.ok (.bool false) E.w:=by
  generalize hux:a.eval x=u at hrx
  generalize huy:a.eval y=v at hry
  obtain ⟨en,c',ad0,rfl,hσ,hsz,had,hn,hlen,hc,htot,hcapn⟩:=rep_own hry
  cases hrx with
  | sl _ _ rb off' cap' sz' U hne hS hc2 hcap hsz0 hsz2 hm ho2 h =>
   change Sem.run P (do
    let some t:=fn.params[0]? | stuck "slices.overlaps: no parameter types"
    let .slice elem ← underlying t | stuck "slices.overlaps: slice type expected"
    let size ← sizeOf elem
    match (some ⟨rb,off',none⟩:Option Addr),ad0 with
    | some a,some b =>
     if (e0::es).length=0∨len=0∨size=0 then pure (Value.bool false)
     else if a.block != b.block&&(← frozen a)&&(← frozen b) then unsupported .addressObserved
     else do
      if a.block != b.block then do
       noView a; noView b
       if ← mayBeOne a b then return Value.bool ((← choose (.extern "sameAddr.stringBytes" 2))==1)
      pure (Value.bool (a.block==b.block&&a.off < b.off+len * size&&b.off < a.off+(e0::es).length * size))
    | _,_=>pure (Value.bool false)) E.w=_
   cases ad0 with
   | none=>simp [hpar,run_underlying hu,run_sizeOf hi]
   | some b0 =>
    by_cases h0:len=0
    ·simp [hpar,run_underlying hu,run_sizeOf hi,h0]
    ·have hc0:c'≠0:=by omega
     have hb:=had hc0
     cases hb
     have ht0:en.tot≠0:=by omega
     have A:At E st.h b s (.cells es') en:=⟨hslot,hσ⟩
     obtain ⟨⟨b1,b2,b3,b4⟩,hnS⟩:=A.brep I.good
     obtain ⟨arr,ty,b5,b6,b7,b8⟩:=b4 ht0
     have hne':rb≠en.rb:=fun h=>hnS ht0 (h ▸ hS)
     have hnb:(rb != en.rb)=true:=by simpa using hne'
     have hnb':(rb==en.rb)=false:=by simpa using hne'
     have hfb:E.w.frozen? ⟨en.rb,en.base+off * en.sz,none⟩=false:=by simp [World.frozen?,b5]
     have hfb2:E.w.frozen? ⟨en.rb,arr.size,none⟩=false:=by simp [World.frozen?,b5]
     have hsb:E.w.shape? en.rb=some (ty,arr.size):=by simp [World.shape?,b5]
     have harr:arr.size≠0:=by
      have:0 < en.tot * en.sz:=Nat.mul_pos (Nat.pos_of_ne_zero ht0) b2
      omega
     have hcell:=hm 0 e0 0 (e0.cells[0]'(by rw [hsz2 0 e0 rfl]; exact hsz0)) rfl (List.getElem?_eq_getElem _)
     have hsa:∃ ta ka,E.w.shape? rb=some (ta,ka+1):=by
      simp only [World.cell?] at hcell
      simp only [World.shape?]
      split at hcell
      ·rename_i arr2 ty2 fr2 hobj
       have hcell:arr2[off'+0 * sz'+0]?=some (U 0 0):=by simpa using hcell
       have:=(Array.getElem?_eq_some_iff.1 hcell).1
       exact ⟨ty2,arr2.size - 1,by simp only [Option.some.injEq,Prod.mk.injEq,true_and]; omega⟩
      ·cases hcell
     obtain ⟨ta,ka,hsa⟩:=hsa
     cases hk:arr.size with
     | zero=>exact absurd hk harr
     | succ kk =>
      rw [hk] at hsb hfb2
      simp [hpar,run_underlying hu,run_sizeOf hi,h0,hs0,hnb,hnb',frozen,noView,viewAt,mayBeOne,stringish,shape,Sem.run,hsa,hsb,hfb,hfb2]
 have hex':(execOp a.eval o).run P E.w=.ok (.value (.bool false)) E.w:=by
  have h1:=run_callFunc_extern (P:=P) (f:=f) hfn (by simpa using f3) f1 (Option.isNone_iff_eq_none.1 f4) (find_ovl f2 f5 f6 f7) #[a.eval x,a.eval y] E.w
  rw [run] at h1
  simp only [Result.andThen_ok] at h1
  have hev:a.eval (.func f)=.func (.func f) #[] #[]:=rfl
  simp [execOp,ho,resolve,hcl,hargs,hev,Deferred.ofValue,invoke,h1]
 exact Out.same I hK hex' (.v _)
end Go.Proofs.Ytemdbhdjchkllaa.VL
