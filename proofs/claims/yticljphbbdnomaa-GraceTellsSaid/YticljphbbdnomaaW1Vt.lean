import Derived.Test.YticljphbbdnomaaW1Vs
namespace Go.Proofs.Yticljphbbdnomaa.VL
open Go
set_option linter.unusedVariables false
set_option linter.unusedSimpArgs false
set_option linter.unusedSectionVars false
variable [Val]
theorem opK_mono {ρ:Opd→PV} {h:List Slot} {n:Nat} {K K':PV→List Slot→Nat→Prop} (hK:∀ p h n,K p h n→K' p h n):∀ {op:IOp},opK ρ h n K op→opK ρ h n K' op:=by
 intro op hop
 have raw:op.isCall=false→∀ K:PV→List Slot→Nat→Prop,rawK ⟨default,#[]⟩ ρ h n K op=opK ρ h n K op:=by
  intro hc K
  cases op<;>first | rfl | cases hc
 by_cases hcall:op.isCall=true
 ·cases op<;>first | cases hcall; done | exact hop
 replace hcall:op.isCall=false:=by simpa using hcall
 by_cases hc:op.cls≤2
 ·rw [← raw hcall K] at hop
  obtain ⟨p,h',n',k1,k2,_⟩:=rawK_det hc hop
  rw [← raw hcall K']
  exact k2 K' (hK _ _ _ k1)
 ·cases op with
  | nilq neg x =>
   simp only [opK] at hop ⊢
   split at hop
   ·exact ⟨fun h=>hK _ _ _ (hop.1 h),hK _ _ _ hop.2⟩
   ·exact ⟨fun h=>hK _ _ _ (hop.1 h),hK _ _ _ hop.2⟩
   ·exact hop.elim
  | cap x =>
   simp only [opK] at hop ⊢
   split at hop<;>first
    | exact hop.elim
    | exact hK _ _ _ hop
    | exact fun c hc=>hK _ _ _ (hop c hc)
  | bad=>exact hop.elim
  | slc sz x lo hi mx=>cases hi<;>simp [IOp.cls] at hc
  | _=>simp [IOp.cls] at hc
theorem callK_mono {P:Program} {d:Bool} {st:St} {s f:Nat} {args:List PV} {K K':PV→List Slot→Nat→Prop} (hK:∀ p h n,K p h n→K' p h n) (h:callK P d st s f args K):callK P d st s f args K':=by
 rcases h with ⟨r,h1,h2⟩ | ⟨h1,ms,ks,R,h2,h3,h4,h5,h6,h7,h8⟩ | ⟨h1,r,h',n',h2,h3⟩
 ·exact .inl ⟨r,h1,hK _ _ _ h2⟩
 ·exact .inr (.inl ⟨h1,ms,ks,R,h2,h3,h4,h5,h6,h7,fun r L' N g1 g2=>hK _ _ _ (h8 r L' N g1 g2)⟩)
 ·exact .inr (.inr ⟨h1,r,h',n',h2,hK _ _ _ h3⟩)
theorem icWp_mono {P:Program}:∀ {ic:ICode} {Q Q':IExit→St→Prop} {st:St},(∀ e st,Q e st→Q' e st)→icWp P ic Q st→icWp P ic Q' st:=by
  intro ic
  induction ic with
  | skip=>intro Q Q' st hQ h; exact hQ _ _ h
  | reg d ops =>
    intro Q Q' st hQ h
    have:∀ (l:List IOper) (st:St),opsK P d (Q .normal) l st→opsK P d (Q' .normal) l st:=by
      intro l
      induction l with
      | nil=>intro st h; exact hQ _ _ h
      | cons o r ih =>
        intro st h
        rw [opsK] at h ⊢
        have ex:execK P d o st (opsK P d (Q .normal) r)→execK P d o st (opsK P d (Q' .normal) r):=by
          intro h
          unfold execK at h ⊢
          split
          · rename_i hop; simp only [hop] at h; exact callK_mono (fun p h n=>ih _) h
          · rename_i hop
            rename_i x _
            simp only [hop] at h
            cases hev:st.ev x<;>simp only [hev] at h ⊢<;>first | exact h.elim | exact callK_mono (fun p h n=>ih _) h
          · rename_i hop
            simp only [hop] at h
            obtain ⟨r,h',n',h1,h2⟩:=h
            exact ⟨r,h',n',h1,ih _ h2⟩
          · rename_i hop
            rename_i x _
            simp only [hop] at h
            cases hev:st.ev x<;>simp only [hev] at h ⊢<;>first
              | exact h.elim
              | (obtain ⟨r,h',n',h1,h2⟩:=h
                 exact ⟨r,h',n',h1,ih _ h2⟩)
          · rename_i h1 h2 h3 h4
            split at h
            · rename_i hop; exact absurd hop (h1 _ _ _)
            · rename_i hop; exact absurd hop (h2 _ _ _)
            · rename_i hop; exact absurd hop (h3 _ _ _)
            · rename_i hop; exact absurd hop (h4 _ _ _)
            · exact opK_mono (fun p h n=>ih _) h
        split
        · rename_i hg; simp only [hg] at h; exact ex h
        · rename_i g want hg
          simp only [hg] at h
          split
          · rename_i b hb; simp only [hb] at h; exact ⟨fun hh=>ex (h.1 hh),fun hh=>ih _ (h.2 hh)⟩
          · rename_i u hne hb
            simp only [hb] at h
            exact ih _ h
          · rename_i x hb
            simp only [hb] at h
            exact ⟨h.1,fun hh=>ex (h.2.1 hh),fun hh=>ih _ (h.2.2 hh)⟩
          · rename_i h1 h2 h3
            split at h
            · rename_i b hb; exact absurd hb (h1 _)
            · rename_i u _ hb; exact absurd hb (h2 _)
            · rename_i x hb; exact absurd hb (h3 _)
            · exact h
    exact this ops st h
  | dr un ops =>
    intro Q Q' st hQ h
    obtain ⟨S,s0,sQ,hS,hk,hd⟩:=h
    exact ⟨S,s0,hQ _ _ sQ,hS,hk,hd⟩
  | seq a b iha ihb =>
    intro Q Q' st hQ h
    refine iha (fun e st h=>?_) h
    cases e with
    | normal=>exact ihb hQ h
    | exit id=>exact hQ _ _ h
    | ret=>exact hQ _ _ h
  | cond c a b iha ihb =>
    intro Q Q' st hQ h
    simp only [icWp] at h ⊢
    split at h
    · exact ⟨fun hh=>iha hQ (h.1 hh),fun hh=>ihb hQ (h.2 hh)⟩
    · exact ⟨h.1,fun hh=>iha hQ (h.2.1 hh),fun hh=>ihb hQ (h.2.2 hh)⟩
    · exact h.elim
  | blk id b ih =>
    intro Q Q' st hQ h
    refine ih (fun e st h=>?_) h
    cases e with
    | normal=>exact hQ _ _ h
    | exit i =>
      simp only [blkQ] at h ⊢
      split
      · rename_i hi; rw [if_pos hi] at h; exact hQ _ _ h
      · rename_i hi; rw [if_neg hi] at h; exact hQ _ _ h
    | ret=>exact hQ _ _ h
  | loop b ih =>
    intro Q Q' st hQ h
    obtain ⟨I,n,h0,hr⟩:=h
    refine ⟨I,n,h0,fun n st hI=>ih (fun e st h=>?_) (hr n st hI)⟩
    cases e with
    | normal=>exact h
    | exit id=>exact hQ _ _ h
    | ret=>exact hQ _ _ h
  | exit id=>intro Q Q' st hQ h; exact hQ _ _ h
  | ret=>intro Q Q' st hQ h; exact hQ _ _ h
  | bad=>intro Q Q' st hQ h; exact h.elim
def EndP (ts:List Nat) (r:PV) (e:IExit) (st:St):Prop:=(e=.normal∨e=.ret)∧∃ st',Weak st st'∧resV st' ts=r
end Go.Proofs.Yticljphbbdnomaa.VL
