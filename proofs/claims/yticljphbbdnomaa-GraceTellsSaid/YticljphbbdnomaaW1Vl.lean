import Derived.Test.YticljphbbdnomaaW1Wa
namespace Go.Proofs.Yticljphbbdnomaa.VL
open Go
set_option linter.unusedVariables false
set_option linter.unusedSimpArgs false
set_option linter.unusedSectionVars false
variable [Val]
def cOp (P:Program) (slot:Nat) (o:Oper):Option IOp :=
 match o.op with
 | .move x=>(cOpd x).map .mov
 | .assign x=>(cOpd x).map .mov
 | .pick c x y=>(cOpd c).bind fun c=>(cOpd x).bind fun x=>(cOpd y).map fun y=>.pick c x y
 | .alloc t=>(P.info? t).bind fun i=>i.zero.map fun z=>.alloc slot (cVal z)
 | .box t x=>(P.info? t).bind fun i=>(cOpd x).map fun x=>.box slot i.size x
 | .build t parts=>(P.info? t).bind fun i=>i.zero.bind fun z=>(places P t).bind fun pl=>(cParts pl parts.toList).bind fun ps=>if (cVal z).stor=true then some (.bld (cVal z).cells ps) else none
 | .buildSlice t len parts=>(elemT P t).bind fun e=>(P.info? e).bind fun i=>i.zero.bind fun z=>(parts.toList.mapM (fun p=>(cOpd p.2).map fun y=>(p.1,y))).map fun ps=>.bsl i.size (cVal z) len ps
 | .load t x=>(isAggT P t).bind fun g=>(P.info? t).bind fun i=>(cOpd x).map fun x=>.load g i.size x
 | .store t x v=>(P.info? t).bind fun i=>(cOpd x).bind fun x=>(cOpd v).map fun v=>.store i.size x v
 | .nilCheck x=>(cOpd x).map .nilc
 | .binOp op t x y _=>(P.underlying t).bind fun d=>(cOpd x).bind fun x'=>match d with
  | .int _ | .string=>(cOpd y).map fun y=>.bin op x' y
  | .bool=>(cOpd y).bind fun y=>match op with | .eql=>some (.binB false x' y) | .neq=>some (.binB true x' y) | _=>none
  | .slice _=>match y with
   | .const (.slice none 0 0)=>match op with | .eql=>some (.nilq false x') | .neq=>some (.nilq true x') | _=>none
   | _=>none
  | .struct _=>(cOpd y).bind fun y=>(P.info? t).bind fun i=>(cEq P 20 t 0).bind fun plan=>if P.eqGuardType P.depth t=false then (match op with | .eql=>some (.eqA false i.size plan x' y) | .neq=>some (.eqA true i.size plan x' y) | _=>none) else none
  | _=>none
 | .unOp op _ x=>(cOpd x).map (.un op)
 | .convert s t x=>(P.underlying s).bind fun ds=>(P.underlying t).bind fun d=>(cOpd x).bind fun x=>match d with
  | .int k=>some (.conv k x)
  | .string=>match ds with
   | .slice e=>(match P.underlying e with | some (.int .u8)=>some (.bts x) | _=>none)
   | _=>some (.convS x)
  | _=>none
 | .makeMap t r=>(cKey P t).bind fun _=>match r with | none=>some (.mkm slot) | some (.const (.int _ _))=>some (.mkm slot) | _=>none
 | .lookup t x key ok=>(cKey P t).bind fun ke=>(P.info? ke.2).bind fun i=>i.zero.bind fun z=>(cOpd x).bind fun x=>(cOpd key).map fun key=>.lkp ok ke.1 (cVal z) x key
 | .mapUpdate t x key v=>(cKey P t).bind fun ke=>(cOpd x).bind fun x=>(cOpd key).bind fun key=>(cOpd v).map fun v=>.mup ke.1 x key v
 | .insert t x key v=>(cKey P t).bind fun ke=>(cOpd x).bind fun x=>(cOpd key).bind fun key=>(cOpd v).map fun v=>.mup ke.1 x key v
 | .makeFunc (.func f) fs cs=>(cOpds fs).bind fun fs=>(cOpds cs).map fun cs=>.fn f fs cs
 | .makeSlice t l c=>(elemT P t).bind fun e=>(P.info? e).bind fun i=>i.zero.bind fun z=>(cOpd l).bind fun l=>(cOpd c).map fun c=>.mksl slot i.size i.bytes (cVal z) l c
 | .slice t x lo hi mx=>(P.underlying t).bind fun d=>(cOpd x).bind fun x=>(cOpt lo).bind fun lo'=>(cOpt hi).bind fun hi'=>match d with
  | .slice e=>(P.info? e).bind fun i=>(cOpt mx).bind fun mx'=>if mx.isSome=true→hi.isSome=true then some (.slc i.size x lo' hi' mx') else none
  | .string=>match mx with | none=>some (.slS x lo' hi') | some _=>none
  | _=>none
 | .fieldAddr t x k=>(cOpd x).bind fun x=>match P.underlying t with
  | some (.struct fs)=>fs[k]?.bind fun f=>(P.info? f.type).bind fun i=>if i.size≠0 then some (.fad f.offset x) else none
  | _=>none
 | .field t x k=>(cOpd x).bind fun x=>match P.underlying t with
  | some (.struct fs)=>fs[k]?.bind fun f=>(P.info? f.type).bind fun i=>(isAggT P f.type).map fun g=>.fld g f.offset i.size x
  | _=>none
 | .indexAddr t x i=>(cOpd x).bind fun x=>(cOpd i).bind fun i=>match P.underlying t with
  | some (.slice e)=>(P.info? e).map fun ie=>.iad ie.size x i
  | some (.array n e)=>(P.info? e).map fun ie=>.iaA n ie.size x i
  | _=>none
 | .index t x i=>(cOpd x).bind fun x=>(cOpd i).bind fun i=>match P.underlying t with
  | some (.array n e)=>(P.info? e).bind fun ie=>(isAggT P e).map fun g=>.ixA g n ie.size x i
  | some .string=>some (.ixS x i)
  | _=>none
 | .range t x=>match P.underlying t with | some .string=>(cOpd x).map fun x=>.rngS slot x | _=>none
 | .next x true=>(cOpd x).map fun x=>.nxtS x
 | .extract x i=>(cOpd x).map fun x=>.ext x i
 | .call c=>match c.callee with
  | .builtin .len=>match c.args,c.argTypes with
   | ⟨[x]⟩,⟨[t]⟩=>(cOpd x).bind fun x=>match P.underlying t with | some (.slice _)=>some (.len x) | some .string=>some (.lenS x) | some (.map _ _)=>some (.lenM x) | _=>none
   | _,_=>none
  | .builtin .cap=>match c.args,c.argTypes with
   | ⟨[x]⟩,⟨[t]⟩=>(cOpd x).bind fun x=>match P.underlying t with | some (.slice _)=>some (.cap x) | _=>none
   | _,_=>none
  | .builtin .append=>match c.args,c.argTypes with
   | ⟨[x,y]⟩,⟨[t,t']⟩=>(cOpd x).bind fun x=>(cOpd y).bind fun y=>(elemT P t).bind fun e=>(P.info? e).bind fun i=>i.zero.bind fun z=>(match P.underlying t' with | some (.slice _)=>some (.app slot i.size i.bytes (cVal z) x y) | some (.int _)=>some (.apz slot i.size i.bytes (cVal z) x y) | _=>none)
   | _,_=>none
  | .builtin .copy=>match c.args,c.argTypes with
   | ⟨[x,y]⟩,⟨[t,_]⟩=>(cOpd x).bind fun x=>(cOpd y).bind fun y=>(elemT P t).bind fun e=>(P.info? e).bind fun i=>if 0 < i.size then some (.cpy i.size x y) else none
   | _,_=>none
  | .builtin .delete=>match c.args,c.argTypes with
   | ⟨[x,y]⟩,⟨[t,_]⟩=>(cKey P t).bind fun ke=>(cOpd x).bind fun x=>(cOpd y).map fun y=>.del ke.1 x y
   | _,_=>none
  | .builtin .clear=>match c.args,c.argTypes with
   | ⟨[x]⟩,⟨[t]⟩=>(elemT P t).bind fun e=>(P.info? e).bind fun i=>i.zero.bind fun z=>(cOpd x).map fun x=>.clr i.size (cVal z) x
   | _,_=>none
  | .builtin .max=>(cOpds c.args).map (.mm true)
  | .builtin .min=>(cOpds c.args).map (.mm false)
  | .value (.func f)=>match c.args with
   | ⟨[x,y]⟩=>(match ovlF P f with | true=>(cOpd x).bind fun x=>(cOpd y).map fun y=>.ovl x y | false=>none)
   | _=>none
  | _=>none
 | _=>none
def cCall (slot:Nat) (o:Oper):Option IOp :=
 match o.op with
 | .call c=>match c.callee with
  | .value (.func f)=>(cOpds c.args).map (.call slot f)
  | .value (.tmp t)=>(cOpds c.args).map (.callv slot (.t t))
  | _=>none
 | _=>none
def IOp.isCall:IOp→Bool
 | .call .. | .callv .. | .callG .. | .callvG ..=>true
 | _=>false
variable {P:Program} {C:Ctx} {st:St} {a:Act} {E:Env} {K:PV→List Slot→Nat→Prop} {o:Oper}
theorem elemT_spec {t e:TypeId} (h:elemT P t=some e):P.underlying t=some (.slice e):=by
 unfold elemT at h
 split at h
 ·cases h; assumption
 ·cases h
theorem op_sound {slot:Nat} {iop:IOp} (hc:cOp P slot o=some iop) (I:InvE C st a E) (hK:opK st.ev st.h st.n K iop):Out P o C st a E K:=by
 unfold cOp at hc
 split at hc
 case h_1 x ho =>
  simp only [Option.map_eq_some_iff] at hc
  obtain ⟨y,hy,rfl⟩:=hc
  exact out_mov I (.inl ho) hy hK
 case h_2 x ho =>
  simp only [Option.map_eq_some_iff] at hc
  obtain ⟨y,hy,rfl⟩:=hc
  exact out_mov I (.inr ho) hy hK
 case h_3 c x y ho =>
  simp only [Option.bind_eq_some_iff,Option.map_eq_some_iff] at hc
  obtain ⟨c',h1,x',h2,y',h3,rfl⟩:=hc
  exact out_pick I ho h1 h2 h3 hK
 case h_4 t ho =>
  simp only [Option.bind_eq_some_iff,Option.map_eq_some_iff] at hc
  obtain ⟨i,h1,z,h2,rfl⟩:=hc
  exact out_alloc I ho h1 h2 hK
 case h_5 t x ho =>
  simp only [Option.bind_eq_some_iff,Option.map_eq_some_iff] at hc
  obtain ⟨i,h1,z,h2,rfl⟩:=hc
  exact out_box I ho h2 hK
 case h_6 t parts ho =>
  simp only [Option.bind_eq_some_iff] at hc
  obtain ⟨i,h1,z,h2,pl,h3,ps,h4,hc⟩:=hc
  split at hc
  ·cases hc
   exact out_bld I ho h1 h2 h3 (by assumption) h4 hK
  ·cases hc
 case h_7 t len parts ho =>
  simp only [Option.bind_eq_some_iff,Option.map_eq_some_iff] at hc
  obtain ⟨e,h1,i,h2,z,h3,ps,h4,rfl⟩:=hc
  exact out_bsl I ho (elemT_spec h1) h2 h3 h4 hK
 case h_8 t x ho =>
  simp only [Option.bind_eq_some_iff,Option.map_eq_some_iff] at hc
  obtain ⟨g,h1,i,h2,x',h3,rfl⟩:=hc
  exact out_load I ho h3 h1 h2 hK
 case h_9 t x v ho =>
  simp only [Option.bind_eq_some_iff,Option.map_eq_some_iff] at hc
  obtain ⟨i,h1,x',h2,v',h3,rfl⟩:=hc
  exact out_store I ho h2 h3 h1 hK
 case h_10 x ho =>
  simp only [Option.map_eq_some_iff] at hc
  obtain ⟨y,hy,rfl⟩:=hc
  exact out_nilc I ho hy hK
 case h_11 op t x y t' ho =>
  simp only [Option.bind_eq_some_iff] at hc
  obtain ⟨d,h1,x',h2,hc⟩:=hc
  split at hc
  ·simp only [Option.map_eq_some_iff] at hc
   obtain ⟨y',hy,rfl⟩:=hc
   exact out_bin I ho h2 hy hK
  ·simp only [Option.map_eq_some_iff] at hc
   obtain ⟨y',hy,rfl⟩:=hc
   exact out_bin I ho h2 hy hK
  ·simp only [Option.bind_eq_some_iff] at hc
   obtain ⟨y',hy,hc⟩:=hc
   split at hc
   ·cases hc; exact out_binB I ho (.inl ⟨rfl,rfl⟩) h1 h2 hy hK
   ·cases hc; exact out_binB I ho (.inr ⟨rfl,rfl⟩) h1 h2 hy hK
   ·cases hc
  ·split at hc
   ·split at hc
    ·cases hc; exact out_nilq I ho (.inl ⟨rfl,rfl⟩) h1 h2 hK
    ·cases hc; exact out_nilq I ho (.inr ⟨rfl,rfl⟩) h1 h2 hK
    ·cases hc
   ·cases hc
  ·simp only [Option.bind_eq_some_iff] at hc
   obtain ⟨y',hy,i,hi,plan,hp,hc⟩:=hc
   split at hc
   ·rename_i hgu
    split at hc
    ·cases hc; exact out_eqA I ho (.inl ⟨rfl,rfl⟩) h1 hi hp hgu h2 hy hK
    ·cases hc; exact out_eqA I ho (.inr ⟨rfl,rfl⟩) h1 hi hp hgu h2 hy hK
    ·cases hc
   ·cases hc
  ·cases hc
 case h_12 op t x ho =>
  simp only [Option.map_eq_some_iff] at hc
  obtain ⟨y,hy,rfl⟩:=hc
  exact out_un I ho hy hK
 case h_13 s t x ho =>
  simp only [Option.bind_eq_some_iff] at hc
  obtain ⟨d,h1,d',h2,x',h3,hc⟩:=hc
  split at hc
  ·cases hc; exact out_conv I ho h1 h2 h3 hK
  ·split at hc
   ·split at hc
    ·cases hc; exact out_bts I ho h1 (by assumption) h2 h3 hK
    ·cases hc
   ·cases hc; exact out_convS I ho h1 h2 h3 hK
  ·cases hc
 case h_14 t r ho =>
  simp only [Option.bind_eq_some_iff] at hc
  obtain ⟨⟨k,et⟩,h1,hc⟩:=hc
  split at hc
  ·cases hc; exact out_mkm I ho (.inl rfl) h1 hK
  ·cases hc; exact out_mkm I ho (.inr ⟨_,_,rfl⟩) h1 hK
  ·cases hc
 case h_15 t x key ok ho =>
  simp only [Option.bind_eq_some_iff,Option.map_eq_some_iff] at hc
  obtain ⟨⟨k,et⟩,h1,i,h2,z,h3,x',h4,key',h5,rfl⟩:=hc
  exact out_lkp (ty:=0) I ho h1 h2 h3 h4 h5 hK
 case h_16 t x key v ho =>
  simp only [Option.bind_eq_some_iff,Option.map_eq_some_iff] at hc
  obtain ⟨⟨k,et⟩,h1,x',h4,key',h5,v',h6,rfl⟩:=hc
  exact out_mup I (.inl ho) h1 h4 h5 h6 hK
 case h_17 t x key v ho =>
  simp only [Option.bind_eq_some_iff,Option.map_eq_some_iff] at hc
  obtain ⟨⟨k,et⟩,h1,x',h4,key',h5,v',h6,rfl⟩:=hc
  exact out_mup I (.inr ho) h1 h4 h5 h6 hK
 case h_18 f fs cs ho =>
  simp only [Option.bind_eq_some_iff,Option.map_eq_some_iff] at hc
  obtain ⟨fs',h1,cs',h2,rfl⟩:=hc
  exact out_fn I ho h1 h2 hK
 case h_19 t l c ho =>
  simp only [Option.bind_eq_some_iff,Option.map_eq_some_iff] at hc
  obtain ⟨e,h1,i,h2,z,h3,l',h4,c',h5,rfl⟩:=hc
  exact out_mksl I ho (elemT_spec h1) h2 h3 h4 h5 hK
 case h_20 t x lo hi mx ho =>
  simp only [Option.bind_eq_some_iff] at hc
  obtain ⟨d,h1,x',h2,lo',h3,hi',h4,hc⟩:=hc
  split at hc
  ·simp only [Option.bind_eq_some_iff] at hc
   obtain ⟨i,h5,mx',h6,hc⟩:=hc
   split at hc
   ·cases hc; exact out_slc I ho h1 h5 h2 h3 h4 h6 (by assumption) hK
   ·cases hc
  ·split at hc
   ·cases hc; exact out_slS I ho h1 h2 h3 h4 hK
   ·cases hc
  ·cases hc
 case h_21 t x k ho =>
  simp only [Option.bind_eq_some_iff] at hc
  obtain ⟨x',h1,hc⟩:=hc
  split at hc
  ·rename_i fs h2
   simp only [Option.bind_eq_some_iff] at hc
   obtain ⟨f,h3,i,h4,hc⟩:=hc
   split at hc
   ·cases hc; exact out_fad I ho h2 h3 h4 (by assumption) rfl h1 hK
   ·cases hc
  ·cases hc
 case h_22 t x k ho =>
  simp only [Option.bind_eq_some_iff] at hc
  obtain ⟨x',h1,hc⟩:=hc
  split at hc
  ·rename_i fs h2
   simp only [Option.bind_eq_some_iff,Option.map_eq_some_iff] at hc
   obtain ⟨f,h3,i,h4,g,h5,rfl⟩:=hc
   exact out_fld I ho h2 h3 h4 h5 rfl h1 hK
  ·cases hc
 case h_23 t x i ho =>
  simp only [Option.bind_eq_some_iff] at hc
  obtain ⟨x',h1,i',h2,hc⟩:=hc
  split at hc
  ·rename_i e h3
   simp only [Option.map_eq_some_iff] at hc
   obtain ⟨ie,h4,rfl⟩:=hc
   exact out_iad I ho h3 h4 h1 h2 hK
  ·rename_i n e h3
   simp only [Option.map_eq_some_iff] at hc
   obtain ⟨ie,h4,rfl⟩:=hc
   exact out_iaA I ho h3 h4 h1 h2 hK
  ·cases hc
 case h_24 t x i ho =>
  simp only [Option.bind_eq_some_iff] at hc
  obtain ⟨x',h1,i',h2,hc⟩:=hc
  split at hc
  ·rename_i n e h3
   simp only [Option.bind_eq_some_iff,Option.map_eq_some_iff] at hc
   obtain ⟨ie,h4,g,h5,rfl⟩:=hc
   exact out_ixA I ho h3 h4 h5 h1 h2 hK
  ·rename_i h3
   cases hc
   exact out_ixS I ho h3 h1 h2 hK
  ·cases hc
 case h_25 t x ho =>
  split at hc
  ·simp only [Option.map_eq_some_iff] at hc
   obtain ⟨x',h1,rfl⟩:=hc
   exact out_rngS I ho (by assumption) h1 hK
  ·cases hc
 case h_26 x ho =>
  simp only [Option.map_eq_some_iff] at hc
  obtain ⟨x',h1,rfl⟩:=hc
  exact out_nxtS I ho h1 hK
 case h_27 x k ho =>
  simp only [Option.map_eq_some_iff] at hc
  obtain ⟨x',h1,rfl⟩:=hc
  exact out_ext I ho h1 hK
 case h_28 c ho =>
  split at hc
  ·rename_i hcl
   split at hc
   ·rename_i x t ha hat
    simp only [Option.bind_eq_some_iff] at hc
    obtain ⟨x',h1,hc⟩:=hc
    split at hc
    ·cases hc; exact out_len (ty:=0) I ho hcl ha hat (by assumption) h1 hK
    ·cases hc; exact out_lenS (ty:=0) I ho hcl ha hat (by assumption) h1 hK
    ·cases hc; exact out_lenM I ho hcl ha hat (by assumption) h1 hK
    ·cases hc
   ·cases hc
  ·rename_i hcl
   split at hc
   ·rename_i x t ha hat
    simp only [Option.bind_eq_some_iff] at hc
    obtain ⟨x',h1,hc⟩:=hc
    split at hc
    ·cases hc; exact out_cap (ty:=0) I ho hcl ha hat (by assumption) h1 hK
    ·cases hc
   ·cases hc
  ·rename_i hcl
   split at hc
   ·rename_i x y t t' ha hat
    simp only [Option.bind_eq_some_iff,Option.map_eq_some_iff] at hc
    obtain ⟨x',h1,y',h2,e,h3,i,h5,z,h6,hc⟩:=hc
    split at hc
    ·rename_i e' h4; cases hc; exact out_app I ho hcl ha hat (elemT_spec h3) h4 h5 h6 h1 h2 hK
    ·rename_i k h4; cases hc; exact out_apz I ho hcl ha hat (elemT_spec h3) h4 h5 h6 h1 h2 hK
    ·cases hc
   ·cases hc
  ·rename_i hcl
   split at hc
   ·rename_i x y t t' ha hat
    simp only [Option.bind_eq_some_iff] at hc
    obtain ⟨x',h1,y',h2,e,h3,i,h5,hc⟩:=hc
    split at hc
    ·cases hc; exact out_cpy (e':=0) I ho hcl ha hat (elemT_spec h3) h5 (by assumption) h1 h2 hK
    ·cases hc
   ·cases hc
  ·rename_i hcl
   split at hc
   ·rename_i x y t t' ha hat
    simp only [Option.bind_eq_some_iff,Option.map_eq_some_iff] at hc
    obtain ⟨⟨k,et⟩,h1,x',h2,y',h3,rfl⟩:=hc
    exact out_del I ho hcl ha hat h1 h2 h3 hK
   ·cases hc
  ·rename_i hcl
   split at hc
   ·rename_i x t ha hat
    simp only [Option.bind_eq_some_iff,Option.map_eq_some_iff] at hc
    obtain ⟨e,h1,i,h2,z,h3,x',h4,rfl⟩:=hc
    exact out_clr I ho hcl ha hat (elemT_spec h1) h2 h3 h4 hK
   ·cases hc
  ·rename_i hcl
   simp only [Option.map_eq_some_iff] at hc
   obtain ⟨xs,h1,rfl⟩:=hc
   exact out_mm I ho (by simpa using hcl) rfl h1 hK
  ·rename_i hcl
   simp only [Option.map_eq_some_iff] at hc
   obtain ⟨xs,h1,rfl⟩:=hc
   exact out_mm I ho (by simpa using hcl) rfl h1 hK
  ·rename_i hcl
   split at hc
   ·rename_i x y ha
    split at hc
    ·rename_i hf
     simp only [Option.bind_eq_some_iff,Option.map_eq_some_iff] at hc
     obtain ⟨x',h1,y',h2,rfl⟩:=hc
     exact out_ovl I ho hcl ha hf h1 h2 hK
    ·cases hc
   ·cases hc
  ·cases hc
 ·cases hc
theorem cOp_noCall {slot:Nat} {iop:IOp} (hc:cOp P slot o=some iop):iop.isCall=false:=by
 unfold cOp at hc
 split at hc
 case h_1 x ho =>
  simp only [Option.map_eq_some_iff] at hc
  obtain ⟨y,hy,rfl⟩:=hc
  rfl
 case h_2 x ho =>
  simp only [Option.map_eq_some_iff] at hc
  obtain ⟨y,hy,rfl⟩:=hc
  rfl
 case h_3 c x y ho =>
  simp only [Option.bind_eq_some_iff,Option.map_eq_some_iff] at hc
  obtain ⟨c',h1,x',h2,y',h3,rfl⟩:=hc
  rfl
 case h_4 t ho =>
  simp only [Option.bind_eq_some_iff,Option.map_eq_some_iff] at hc
  obtain ⟨i,h1,z,h2,rfl⟩:=hc
  rfl
 case h_5 t x ho =>
  simp only [Option.bind_eq_some_iff,Option.map_eq_some_iff] at hc
  obtain ⟨i,h1,z,h2,rfl⟩:=hc
  rfl
 case h_6 t parts ho =>
  simp only [Option.bind_eq_some_iff] at hc
  obtain ⟨i,h1,z,h2,pl,h3,ps,h4,hc⟩:=hc
  split at hc
  ·cases hc
   rfl
  ·cases hc
 case h_7 t len parts ho =>
  simp only [Option.bind_eq_some_iff,Option.map_eq_some_iff] at hc
  obtain ⟨e,h1,i,h2,z,h3,ps,h4,rfl⟩:=hc
  rfl
 case h_8 t x ho =>
  simp only [Option.bind_eq_some_iff,Option.map_eq_some_iff] at hc
  obtain ⟨g,h1,i,h2,x',h3,rfl⟩:=hc
  rfl
 case h_9 t x v ho =>
  simp only [Option.bind_eq_some_iff,Option.map_eq_some_iff] at hc
  obtain ⟨i,h1,x',h2,v',h3,rfl⟩:=hc
  rfl
 case h_10 x ho =>
  simp only [Option.map_eq_some_iff] at hc
  obtain ⟨y,hy,rfl⟩:=hc
  rfl
 case h_11 op t x y t' ho =>
  simp only [Option.bind_eq_some_iff] at hc
  obtain ⟨d,h1,x',h2,hc⟩:=hc
  split at hc
  ·simp only [Option.map_eq_some_iff] at hc
   obtain ⟨y',hy,rfl⟩:=hc
   rfl
  ·simp only [Option.map_eq_some_iff] at hc
   obtain ⟨y',hy,rfl⟩:=hc
   rfl
  ·simp only [Option.bind_eq_some_iff] at hc
   obtain ⟨y',hy,hc⟩:=hc
   split at hc
   ·cases hc; rfl
   ·cases hc; rfl
   ·cases hc
  ·split at hc
   ·split at hc
    ·cases hc; rfl
    ·cases hc; rfl
    ·cases hc
   ·cases hc
  ·simp only [Option.bind_eq_some_iff] at hc
   obtain ⟨y',hy,i,hi,plan,hp,hc⟩:=hc
   split at hc
   ·split at hc
    ·cases hc; rfl
    ·cases hc; rfl
    ·cases hc
   ·cases hc
  ·cases hc
 case h_12 op t x ho =>
  simp only [Option.map_eq_some_iff] at hc
  obtain ⟨y,hy,rfl⟩:=hc
  rfl
 case h_13 s t x ho =>
  simp only [Option.bind_eq_some_iff] at hc
  obtain ⟨d,h1,d',h2,x',h3,hc⟩:=hc
  split at hc
  ·cases hc; rfl
  ·split at hc
   ·split at hc
    ·cases hc; rfl
    ·cases hc
   ·cases hc; rfl
  ·cases hc
 case h_14 t r ho =>
  simp only [Option.bind_eq_some_iff] at hc
  obtain ⟨⟨k,et⟩,h1,hc⟩:=hc
  split at hc
  ·cases hc; rfl
  ·cases hc; rfl
  ·cases hc
 case h_15 t x key ok ho =>
  simp only [Option.bind_eq_some_iff,Option.map_eq_some_iff] at hc
  obtain ⟨⟨k,et⟩,h1,i,h2,z,h3,x',h4,key',h5,rfl⟩:=hc
  rfl
 case h_16 t x key v ho =>
  simp only [Option.bind_eq_some_iff,Option.map_eq_some_iff] at hc
  obtain ⟨⟨k,et⟩,h1,x',h4,key',h5,v',h6,rfl⟩:=hc
  rfl
 case h_17 t x key v ho =>
  simp only [Option.bind_eq_some_iff,Option.map_eq_some_iff] at hc
  obtain ⟨⟨k,et⟩,h1,x',h4,key',h5,v',h6,rfl⟩:=hc
  rfl
 case h_18 f fs cs ho =>
  simp only [Option.bind_eq_some_iff,Option.map_eq_some_iff] at hc
  obtain ⟨fs',h1,cs',h2,rfl⟩:=hc
  rfl
 case h_19 t l c ho =>
  simp only [Option.bind_eq_some_iff,Option.map_eq_some_iff] at hc
  obtain ⟨e,h1,i,h2,z,h3,l',h4,c',h5,rfl⟩:=hc
  rfl
 case h_20 t x lo hi mx ho =>
  simp only [Option.bind_eq_some_iff] at hc
  obtain ⟨d,h1,x',h2,lo',h3,hi',h4,hc⟩:=hc
  split at hc
  ·simp only [Option.bind_eq_some_iff] at hc
   obtain ⟨i,h5,mx',h6,hc⟩:=hc
   split at hc
   ·cases hc; rfl
   ·cases hc
  ·split at hc
   ·cases hc; rfl
   ·cases hc
  ·cases hc
 case h_21 t x k ho =>
  simp only [Option.bind_eq_some_iff] at hc
  obtain ⟨x',h1,hc⟩:=hc
  split at hc
  ·rename_i fs h2
   simp only [Option.bind_eq_some_iff] at hc
   obtain ⟨f,h3,i,h4,hc⟩:=hc
   split at hc
   ·cases hc; rfl
   ·cases hc
  ·cases hc
 case h_22 t x k ho =>
  simp only [Option.bind_eq_some_iff] at hc
  obtain ⟨x',h1,hc⟩:=hc
  split at hc
  ·rename_i fs h2
   simp only [Option.bind_eq_some_iff,Option.map_eq_some_iff] at hc
   obtain ⟨f,h3,i,h4,g,h5,rfl⟩:=hc
   rfl
  ·cases hc
 case h_23 t x i ho =>
  simp only [Option.bind_eq_some_iff] at hc
  obtain ⟨x',h1,i',h2,hc⟩:=hc
  split at hc
  ·rename_i e h3
   simp only [Option.map_eq_some_iff] at hc
   obtain ⟨ie,h4,rfl⟩:=hc
   rfl
  ·rename_i n e h3
   simp only [Option.map_eq_some_iff] at hc
   obtain ⟨ie,h4,rfl⟩:=hc
   rfl
  ·cases hc
 case h_24 t x i ho =>
  simp only [Option.bind_eq_some_iff] at hc
  obtain ⟨x',h1,i',h2,hc⟩:=hc
  split at hc
  ·rename_i n e h3
   simp only [Option.bind_eq_some_iff,Option.map_eq_some_iff] at hc
   obtain ⟨ie,h4,g,h5,rfl⟩:=hc
   rfl
  ·rename_i h3
   cases hc
   rfl
  ·cases hc
 case h_25 t x ho =>
  split at hc
  ·simp only [Option.map_eq_some_iff] at hc
   obtain ⟨x',h1,rfl⟩:=hc
   rfl
  ·cases hc
 case h_26 x ho =>
  simp only [Option.map_eq_some_iff] at hc
  obtain ⟨x',h1,rfl⟩:=hc
  rfl
 case h_27 x k ho =>
  simp only [Option.map_eq_some_iff] at hc
  obtain ⟨x',h1,rfl⟩:=hc
  rfl
 case h_28 c ho =>
  split at hc
  ·rename_i hcl
   split at hc
   ·rename_i x t ha hat
    simp only [Option.bind_eq_some_iff] at hc
    obtain ⟨x',h1,hc⟩:=hc
    split at hc
    ·cases hc; rfl
    ·cases hc; rfl
    ·cases hc; rfl
    ·cases hc
   ·cases hc
  ·rename_i hcl
   split at hc
   ·rename_i x t ha hat
    simp only [Option.bind_eq_some_iff] at hc
    obtain ⟨x',h1,hc⟩:=hc
    split at hc
    ·cases hc; rfl
    ·cases hc
   ·cases hc
  ·rename_i hcl
   split at hc
   ·rename_i x y t t' ha hat
    simp only [Option.bind_eq_some_iff,Option.map_eq_some_iff] at hc
    obtain ⟨x',h1,y',h2,e,h3,i,h5,z,h6,hc⟩:=hc
    split at hc
    ·cases hc; rfl
    ·cases hc; rfl
    ·cases hc
   ·cases hc
  ·rename_i hcl
   split at hc
   ·rename_i x y t t' ha hat
    simp only [Option.bind_eq_some_iff] at hc
    obtain ⟨x',h1,y',h2,e,h3,i,h5,hc⟩:=hc
    split at hc
    ·cases hc; rfl
    ·cases hc
   ·cases hc
  ·rename_i hcl
   split at hc
   ·rename_i x y t t' ha hat
    simp only [Option.bind_eq_some_iff,Option.map_eq_some_iff] at hc
    obtain ⟨⟨k,et⟩,h1,x',h2,y',h3,rfl⟩:=hc
    rfl
   ·cases hc
  ·rename_i hcl
   split at hc
   ·rename_i x t ha hat
    simp only [Option.bind_eq_some_iff,Option.map_eq_some_iff] at hc
    obtain ⟨e,h1,i,h2,z,h3,x',h4,rfl⟩:=hc
    rfl
   ·cases hc
  ·rename_i hcl
   simp only [Option.map_eq_some_iff] at hc
   obtain ⟨xs,h1,rfl⟩:=hc
   rfl
  ·rename_i hcl
   simp only [Option.map_eq_some_iff] at hc
   obtain ⟨xs,h1,rfl⟩:=hc
   rfl
  ·rename_i hcl
   split at hc
   ·split at hc
    ·simp only [Option.bind_eq_some_iff,Option.map_eq_some_iff] at hc
     obtain ⟨x',h1,y',h2,rfl⟩:=hc
     rfl
    ·cases hc
   ·cases hc
  ·cases hc
 ·cases hc
end Go.Proofs.Yticljphbbdnomaa.VL
