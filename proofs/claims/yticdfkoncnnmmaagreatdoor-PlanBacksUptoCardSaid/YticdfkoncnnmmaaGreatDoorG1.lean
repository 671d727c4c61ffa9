import Derived.Test.YticdfkoncnnmmaaGreatDoorGO
import Derived.Test.YticdfkoncnnmmaaGreatDoorGU
import Derived.Test.YticdfkoncnnmmaaGreatDoorGI
import Derived.Test.YticdfkoncnnmmaaGreatDoorGV
set_option linter.unusedSimpArgs false
set_option linter.unusedVariables false
set_option maxRecDepth 100000
namespace Go.Proofs.YticdfkoncnnmmaaGreatDoor
open Go.X Go.X.Diff
theorem zAfw:zBI prg zBJ=some [str []].toArray:=by kernel_rfl
structure Dep where
 name:List UInt8
 want:zTn
structure Dep.wf (d:Dep):Prop where
 want:d.want.wf
 name:d.name.length<=9223372036854775807
def zFp (d:Dep):List Value:=str d.name::zFC d.want
def zQL:Dep:=⟨[],zWx⟩
theorem zQp:zQL.wf:=⟨zTE,by simp[zQL]⟩
theorem zEh {d:Dep}(h:d.wf):(zFp d).length=6:=by simp[zFp,zGM h.want]
theorem zLc {d:Dep}:∀ c∈zFp d,c.oneCell'=true:=by
 intro c hc
 rcases zAs.1 hc with rfl|hc
 ·rfl
 ·exact zUs c hc
theorem zAkk:zBI prg zAL=some (zFp zQL).toArray:=by kernel_rfl
theorem zAl7:zLM prg zAL=some ([(0,1),(1,5)],(zFp zQL).toArray):=by kernel_rfl
theorem zAao {h:zAx}{q:Nat}{d:Dep}(a:At h q (zFp d))(hd:d.wf):ldN 5 h (Ptr q 1)=some (.agg (zFC d.want).toArray):=by
 obtain⟨T,a⟩:=a
 exact ldN_mid (A:=[str d.name]) (B:=zFC d.want) (C:=[]) (by rw[zAP];exact a) rfl (zGM hd.want).symm
structure zHt where
 name:List UInt8
 sum:List UInt8
 size:Int
def zEj (f:zHt):List Value:=str f.name::(zBs f.sum++[.int .i64 f.size])
structure zHt.wf (f:zHt):Prop where
 name:f.name.length<=9223372036854775807
 sum:f.sum.length=32
 size : -9223372036854775808<=f.size/\f.size<=9223372036854775807
theorem zDR {f:zHt}(h:f.wf):(zEj f).length=34:=by simp[zEj,h.sum]
theorem zM5 {f:zHt}:∀ c∈zEj f,c.oneCell'=true:=by
 intro c hc
 rcases zAs.1 hc with rfl|hc
 ·rfl
 ·rcases zAp.1 hc with hc|hc
  ·exact bcells_one c hc
  ·simp at hc;subst hc;rfl
structure Man where
 name:List UInt8
 ver:Ver
 deps:List Dep
 conf:List Dep
 files:List zHt
structure Man.wf (m:Man):Prop where
 name:m.name.length<=9223372036854775807
 ver:m.ver.wf
 deps:∀ d∈m.deps,d.wf
 conf:∀ d∈m.conf,d.wf
 files:∀ f∈m.files,f.wf
def zGN (m:Man)(vd vc vf:Value):List Value:=str m.name::(zEm m.ver++[vd,vc,vf])
theorem zBB {m:Man}{vd vc vf:Value}(h:m.wf):(zGN m vd vc vf).length=8:=by simp[zGN,zDH h.ver]
structure zLd (P:zA1)(H:zAx)(m:Man)(vd vc vf:Value):Prop where
 d:SlE 6 P H vd (m.deps.map zFp)
 c:SlE 6 P H vc (m.conf.map zFp)
 f:SlE 34 P H vf (m.files.map zEj)
 wf:m.wf
theorem zLd.keep {P S:zA1}{H H':zAx}{m:Man}{vd vc vf:Value}(h:zLd P H m vd vc vf)(k:Keep S H H')(hs:∀ b,P b->¬ S b):zLd P H' m vd vc vf :=
 ⟨h.d.keep k hs,h.c.keep k hs,h.f.keep k hs,h.wf⟩
theorem zLd.one {P:zA1}{H:zAx}{m:Man}{vd vc vf:Value}(h:zLd P H m vd vc vf):∀ c∈zGN m vd vc vf,c.oneCell'=true:=by
 intro c hc
 rcases zAs.1 hc with rfl|hc
 ·rfl
 rcases zAp.1 hc with hc|hc
 ·exact zLa c hc
 simp at hc
 rcases hc with rfl|rfl|rfl
 ·exact h.d.oneC
 ·exact h.c.oneC
 ·exact h.f.oneC
section
variable {h:zAx} {q:Nat} {m:Man} {vd vc vf:Value}
theorem zDz (a:At h q (zGN m vd vc vf)):ld1 h (Ptr q 0)=some (str m.name):=a.ld rfl
theorem zHu (a:At h q (zGN m vd vc vf))(hm:m.wf):ldN 4 h (Ptr q 1)=some (.agg (zEm m.ver).toArray):=by
 obtain⟨T,a⟩:=a
 exact ldN_mid (A:=[str m.name]) (B:=zEm m.ver) (C:=[vd,vc,vf]) a rfl (zDH hm.ver).symm
theorem zHv (a:At h q (zGN m vd vc vf))(hm:m.wf):ld1 h (Ptr q 5)=some vd/\ld1 h (Ptr q 6)=some vc/\ld1 h (Ptr q 7)=some vf:=by
 have h4:=zDH hm.ver
 refine⟨a.ld ?_,a.ld ?_,a.ld ?_⟩<;>simp[zGN,zBe,h4]
theorem zUu (a:At h q (zGN m vd vc vf))(hm:m.wf):ldN 8 h (Ptr q 0)=some (.agg (zGN m vd vc vf).toArray):=a.ldN (zBB hm)
end
def zO9 (l:List (List UInt8))(i:Nat):Bool:=decide (i=0) || zXD (l.getD (i-1) []) (l.getD i [])
def zR2 (l:List (List UInt8)):Bool:=(List.range l.length).all (zO9 l)
theorem zAap {l:List (List UInt8)}{i:Nat}(hi:i<l.length)(h:zO9 l i=false):zR2 l=false:=by
 unfold zR2
 rw[zCt];exact⟨i,by simpa using hi,by simp[h]⟩
theorem zXM {l:List (List UInt8)}{i:Nat}(h:(List.range i).all (zO9 l)=true)(hb:zO9 l i=true):(List.range (i+1)).all (zO9 l)=true:=by
 rw[List.range_succ,zCO,h];simp[hb]
theorem zAc4 {H:zAx}{d:Dep}:zAA prg zEN [.agg (zFp d).toArray] H λu H'=>u=str d.name/\Keep zAK H H':=by
 apply zNm
 unfold zL7
 simp only[zB8,zBb]
 have a:At (H.push (.cells (zFp d).toArray zAL (0,0))) H.size (zFp d):=At.push
 have d0:ld1 (H.push (.cells (zFp d).toArray zAL (0,0))) (Ptr H.size 0)=some (str d.name):=a.ld rfl
 rw[zBf,zAa,zAu,d0,zAa]
 exact⟨rfl,Keep.push⟩
theorem zAc5 {P:zA1}{H:zAx}{v:Value}{l:List Dep}(hv:SlE 6 P H v (l.map zFp))(hw:∀ d∈l,d.wf)(hl:l.length<=1099511627776) :
  zAA prg zET [v,.func (.func zEN) #[] #[]] H λu H'=>u = .bool (zR2 (l.map (·.name)))/\Keep zAK H H':=by
 apply zIu
 unfold zGK
 have hlen:=hv.len
 rw[zAd]at hlen
 have hln:(l.map (·.name)).length=l.length:=by simp
 have hcall:∀ (d:Dep) (h:zAx) (k:zAm),(∀ h',Keep zAK h h'->k (str d.name) h')->zDQ prg (.func (.func zEN) #[] #[]) [.agg (zFp d).toArray] h k:=λd h k hk =>
  .inl ⟨zEN,#[],#[],rfl,by kernel_rfl,zAA.mono (R:=λu H'=>u=str d.name/\Keep zAK h H') (zAc4 (d:=d)) λu h' hR=>by obtain⟨rfl,k'⟩:=hR;exact hk h' k'⟩
 refine zOt (λ_ h=>zR2 (l.map (·.name))=true/\Keep zAK H h) (λk hk=>?_) ?_
 ·refine zKj (λu h=>∃ i:Nat,1<=i/\u = .int .i64 (i:Nat)/\(List.range (min i l.length)).all (zO9 (l.map (·.name)))=true/\Keep zAK H h) (λu _=>match u with | .int _ t=>l.length-t.toNat|_=>0) ⟨1,zAh _,rfl,?_,Keep.refl⟩ ?_
  ·by_cases h0:l.length=0
   ·rw[h0];rfl
   ·rw[zBN (by omega)];rfl
  rintro _ h ⟨i,hi,rfl,hall,kh⟩ k2 hk2
  have e1:zAB .no .lss (.int .i64 (i:Nat)) (.int .i64 (l.length:Nat))=some (.bool (decide (i<l.length))):=by
   rw[zAJ];simp only[zC8];congr 2;rw[decide_eq_decide];omega
  rw[hlen,zAa,e1,zAa,zAl]
  by_cases hlt:i<l.length
  ·rw[if_pos (by simpa using hlt)]
   have hg:l[i]? = some l[i]:=zAj hlt
   have hg':l[i-1]? = some (l[i-1]'(by omega)):=zAj (by omega)
   have hvh:=hv.keep kh λ_ _=>id
   obtain⟨b,o,hix,hpt,_⟩:=hvh.at (i:=i) (x:=zFp l[i]) (by rw[zAq,hg];rfl)
   obtain⟨b',o',hix',hpt',_⟩:=hvh.at (i:=i-1) (x:=zFp (l[i-1]'(by omega))) (by rw[zAq,hg'];rfl)
   have hwd:=hw _ (zAH hlt)
   have hwd':=hw _ (zAH (show i-1<l.length by omega))
   have hra:zO9 (l.map (·.name)) i=zXD (l[i-1]'(by omega)).name l[i].name:=by
    have h0:((l.map (·.name)).getD (i-1) [])=(l[i-1]'(by omega)).name:=by simp[List.getD,hg']
    have h1:((l.map (·.name)).getD i [])=l[i].name:=by simp[List.getD,hg]
    unfold zO9
    rw[h0,h1,decide_eq_false (by omega)];rfl
   generalize l[i]=d at *
   generalize (l[i-1]'(by omega))=d' at *
   have e2:zAB .no .sub (.int .i64 (i:Nat)) (.int .i64 1)=some (.int .i64 ((i-1:Nat):Int)):=by
    rw[zAJ];simp only[zC8];rw[zCe (by omega) (by omega)];congr 2;omega
   rw[e2,zAa,hix' .i64,zAa,hpt'.agg (zEh hwd'),zAa,hix .i64,zAa,hpt.agg (zEh hwd),zAa]
   refine hcall d' h _ λh5 k5=>?_
   refine⟨(hpt.keep k5 id).agg (zEh hwd),?_⟩
   refine hcall d h5 _ λh6 k6=>?_
   have hge:zAB .no .geq (str d'.name) (str d.name)=some (.bool (!zXD d'.name d.name)):=by rw[zGf];exact zWj
   rw[hge,zAa,zAl]
   have kk:=kh.trans (k5.trans k6)
   cases hb:zXD d'.name d.name
   ·rw[if_pos (show(!false)=true from rfl)]
    exact⟨by rw[zAap (i:=i) (by rw[hln];exact hlt) (by rw[hra,hb])],kk⟩
   ·rw[if_neg (by decide),zBV (by omega),zAa]
    refine hk2 _ _ ⟨i+1,by omega,rfl,?_,kk⟩ (by show l.length-(i+1)<l.length-i;omega)
    rw[zBN (by omega)]at hall ⊢
    exact zXM hall (by rw[hra,hb])
  ·rw[if_neg (by simpa using hlt)]
   refine hk _ _ ⟨?_,kh⟩
   rw[Nat.min_eq_right (by omega)]at hall
   unfold zR2
   rw[hln];exact hall
 ·rintro _ h ⟨h1,h2⟩
  exact⟨by rw[h1],h2⟩
def zSR (own:List UInt8)(d:Dep):Bool:=zJv d.name && !decide (d.name=own)&&zH6 d.want
def zOo (own:List UInt8)(l:List Dep):Bool:=l.all (zSR own)&&decide (l.length<=16)&&zR2 (l.map (·.name))
theorem zAbp {own:List UInt8}{l:List Dep}{d:Dep}(hd:d∈l)(h:zSR own d=false):zOo own l=false:=by
 unfold zOo
 rw[zCt.2 ⟨d,hd,by simp[h]⟩];rfl
theorem zAgV {P:zA1}{H:zAx}{m:Man}{vd vc vf v:Value}{l:List Dep}(hv:SlE 6 P H v (l.map zFp))(hw:∀ d∈l,d.wf)(hO:zQW H)(hl:l.length<=1099511627776) :
  zAA prg zE2 [.agg (zGN m vd vc vf).toArray,v] H λu H'=>u = .bool (zOo m.name l)/\Keep zAK H H':=by
 apply zKX
 unfold zIN
 have hlen:=hv.len
 rw[zAd]at hlen
 simp only[zB8,zBb]
 generalize hH1:H.push (.cells (zGN m vd vc vf).toArray zAe (0,0))=H1
 have k1:Keep zAK H H1:=by rw[<- hH1];exact Keep.push
 have a1:At H1 H.size (zGN m vd vc vf):=by rw[<- hH1];exact At.push
 have s1:H1.size=H.size+1:=by rw[<- hH1];simp
 refine zOt (λ_ h=>l.all (zSR m.name)=true/\Keep zAK H1 h) (λk hk=>?_) ?_
 ·rw[hlen,zAa]
  refine zKj (λu h=>∃ i:Nat,i<=l.length/\u = .int .i64 (i:Nat)/\(l.take i).all (zSR m.name)=true/\Keep zAK H1 h) (λu _=>match u with | .int _ t=>l.length-t.toNat|_=>0) ⟨0,zAz _,rfl,rfl,Keep.refl⟩ ?_
  rintro _ h ⟨i,hi,rfl,hall,kh⟩ k2 hk2
  have e1:zAB .no .lss (.int .i64 (i:Nat)) (.int .i64 (l.length:Nat))=some (.bool (decide (i<l.length))):=by
   rw[zAJ];simp only[zC8];congr 2;rw[decide_eq_decide];omega
  rw[e1,zAa,zAl]
  by_cases hlt:i<l.length
  ·rw[if_pos (by simpa using hlt)]
   have hg:l[i]? = some l[i]:=zAj hlt
   have hvh:=hv.keep (k1.trans kh) λ_ _=>id
   obtain⟨b,o,hix,hpt,_⟩:=hvh.at (i:=i) (x:=zFp l[i]) (by rw[zAq,hg];rfl)
   have hwd:=hw _ (zAH hlt)
   have hmem:l[i]∈l:=zAH hlt
   have hnext:zSR m.name l[i]=true->(l.take (i+1)).all (zSR m.name)=true:=λhb=>by
    rw[zAG,hg,zCO,hall];simp[hb]
   generalize l[i]=d at *
   rw[hix .i64,zAa,hpt.agg (zEh hwd),zAa]
   simp only[zAkk,zBb]
   generalize hH6:h.push (.cells (zFp zQL).toArray zAL (0,0))=h6
   have k6:Keep zAK h h6:=by rw[<- hH6];exact Keep.push
   have a6:At h6 h.size (zFp zQL):=by rw[<- hH6];exact At.push
   obtain⟨h7,st7,a7,k7⟩:=a6.st (n:=6) (ds:=zFp d) (zEh zQp) (zEh hwd) zLc
   have g1:=kh.1
   have k17:Keep zAK H1 h7:=(kh.trans k6).fresh k7 λb hb=>by omega
   have d0:ld1 h7 (Ptr h.size 0)=some (str d.name):=a7.ld rfl
   rw[st7,zAW,zBf,zAa,zAu,d0,zAa]
   refine zAI (zZ3 hwd.name) ?_
   rintro _ h8 ⟨rfl,k8⟩
   have a8:=a7.keep k8 id
   have k18:=k17.trans k8
   have m8:=zDz (a1.keep k18 id)
   have d8:ld1 h8 (Ptr h.size 0)=some (str d.name):=a8.ld rfl
   have w8:=zAao a8 hwd
   have hO8:=hO.keep (k1.trans k18) λ_ h=>h.elim
   have eqn:zAB .no .eql (str d.name) (str m.name)=some (.bool (decide (d.name=m.name))):=zDV
   have bad:zSR m.name d=false->∀ h',Keep zAK h8 h'->Value.bool false = .bool (zOo m.name l)/\Keep zAK H h':=λhb h' k'=>⟨by rw[zAbp hmem hb],k1.trans (k18.trans k')⟩
   cases hn:zJv d.name
   ·simp only[zBf,zAu,zAi,zA7,zAg,zAf,zAQ,zAU,zAv,zAl,zAa,if_true,if_false,zAb,zAc,decide_true,decide_false,reduceCtorEq,zBT,zEL,zEM,zEI,zEJ,zEK,zBp,zA8]
    exact bad (by simp[zSR,hn]) _ Keep.refl
   cases hq:decide (d.name=m.name)
   ·simp only[zBf,zAu,zAi,d8,m8,eqn,hq,w8,zA7,zAg,zAf,zAQ,zAU,zAv,zAl,zAa,if_true,if_false,zAb,zAc,decide_true,decide_false,reduceCtorEq,zBT,zEL,zEM,zEI,zEJ,zEK,zBp,zA8]
    refine zAI (zM3 hwd.want hO8) ?_
    rintro _ h9 ⟨rfl,k9⟩
    cases hk9:zH6 d.want
    ·simp only[zA7,zAg,zAf,zAQ,zAU,zAv,zAl,zAa,if_true,if_false,zAb,zAc,decide_true,decide_false,reduceCtorEq,zBT,zEL,zEM,zEI,zEJ,zEK,zBp,zA8]
     exact bad (by simp[zSR,hk9]) _ k9
    ·simp only[zA7,zAg,zAf,zAQ,zAU,zAv,zAl,zAa,if_true,if_false,zAb,zAc,decide_true,decide_false,reduceCtorEq,zBT,zEL,zEM,zEI,zEJ,zEK,zBp,zA8]
     rw[zBV (by omega),zAa]
     exact hk2 _ _ ⟨i+1,by omega,rfl,hnext (by simp[zSR,hn,hk9,of_decide_eq_false hq]),k18.trans k9⟩ (by show l.length-(i+1)<l.length-i;omega)
   ·simp only[zBf,zAu,zAi,d8,m8,eqn,hq,zA7,zAg,zAf,zAQ,zAU,zAv,zAl,zAa,if_true,if_false,zAb,zAc,decide_true,decide_false,reduceCtorEq,zBT,zEL,zEM,zEI,zEJ,zEK,zBp,zA8]
    exact bad (by simp[zSR,of_decide_eq_true hq]) _ Keep.refl
  ·rw[if_neg (by simpa using hlt)]
   refine hk _ _ ⟨?_,kh⟩
   rwa [zAr (by omega)]at hall
 ·rintro _ h ⟨hall,kh⟩
  have e3:zAB .no .leq (.int .i64 (l.length:Nat)) (.int .i64 16)=some (.bool (decide (l.length<=16))):=by
   rw[zAJ];simp only[zC8];congr 2;rw[decide_eq_decide];omega
  have kk:=k1.trans kh
  rw[hlen,zAa,e3,zAa]
  unfold zOo
  rw[hall]
  cases h16:decide (l.length<=16)
  ·simp only[zA7,zAg,zAf,zAQ,zAU,zAv,zAl,zAa,if_true,if_false,zAb,zAc,decide_true,decide_false,reduceCtorEq,zBT,zEL,zEM,zEI,zEJ,zEK,zBp,zA8,zBa,zA2]
   exact⟨by trivial,kk⟩
  ·simp only[zA7,zAg,zAf,zAQ,zAU,zAv,zAl,zAa,if_true,if_false,zAb,zAc,decide_true,decide_false,reduceCtorEq,zBT,zEL,zEM,zEI,zEJ,zEK,zBp,zA8,zBa]
   refine zAI (zAc5 (hv.keep kk λ_ _=>id) hw hl) ?_
   rintro _ h2 ⟨rfl,k2⟩
   simp only[zA7,zAg,zAf,zAQ,zAU,zAv,zAl,zAa,if_true,if_false,zAb,zAc,decide_true,decide_false,reduceCtorEq,zBT,zEL,zEM,zEI,zEJ,zEK,zBp,zA8]
   exact⟨by trivial,kk.trans k2⟩
def zY5 (m:Man):Bool:=zJv m.name&&zG5 m.ver&&zOo m.name m.deps&&zOo m.name m.conf
def zUv (l:List (List UInt8)):List UInt8:=zQK [32] l++[10]
theorem zAiu {h:zAx}{q:Nat}{l:List (List UInt8)}{n:Nat}(a:At h q (l.map str))(hn:n=l.length):SlE 1 (· = q) h (.slice (some ⟨q,0,none⟩) n n) (zRt l):=by
 subst hn
 exact⟨⟨_,l.length,by rw[zOL],by rw[zOL];exact zAh _,.inr ⟨q,0,rfl,rfl,by rw[zMw];exact a.pt⟩⟩,zQi,zPH λv hv=>by obtain⟨x,_,rfl⟩:=zAo.1 hv;rfl⟩
theorem zAaq (s:List UInt8):∀ l:List (List UInt8),(zQK s l).length<=total l+l.length*s.length
 | []=>by simp[zQK]
 | x::xs=>by
  have:∀ ys:List (List UInt8),((ys.map (s ++ ·)).flatten).length=total ys+ys.length*s.length:=by
   intro ys
   induction ys with
   | nil=>simp[total]
   | cons y ys ih =>
    rw[zA0,zA5,zAt,zAt,ih]
    unfold total
    rw[zA5,zAt,zAS,zCF];omega
  unfold zQK
  rw[zAt,this]
  unfold total
  rw[zA5,zAt,zAS,zCF];omega
theorem zAc6 {H:zAx}{q n:Nat}{l:List (List UInt8)}(a:At H q (l.map str))(hn:n=l.length)(h4:l.length<=100)(ht:total l<=1099511627776) :
  zAA prg zEU [.slice (some ⟨q,0,none⟩) n n] H λu H'=>u=str (zUv l)/\Keep zAK H H':=by
 apply zPn
 unfold zO7
 refine zAI (zAgL (sep:=[32]) (zAiu a hn) (λb hb=>by subst hb;exact a.lt) (by omega) (by simp) ht) ?_
 rintro _ h1 ⟨rfl,k1⟩
 have hj:=zAaq [32] l
 have e:zAB .no .add (str (zQK [32] l)) (.string ⟨#[10]⟩)=some (str (zQK [32] l++[10])):=zUp (b:=[10]) (by simp at hj ⊢;omega)
 rw[e,zAa]
 exact⟨rfl,k1⟩
theorem zAnu {a b c:ByteArray}:zF6 prg zBJ 3 [(0,.string a),(1,.string b),(2,.string c)]=some #[.string a,.string b,.string c]:=by kernel_rfl
def zI3:List UInt8:=[112,97,99,107,97,103,101]
def zXN:List UInt8:=[110,101,101,100,115]
def zTF:List UInt8:=[114,101,102,117,115,101,115]
def zY6 (w:List UInt8)(d:Dep):List UInt8:=zUv [w,d.name,zUt d.want]
def zAfx (m:Man):List UInt8:=zUv [zI3,m.name,zHO m.ver]++((m.deps.map (zY6 zXN)).flatten++(m.conf.map (zY6 zTF)).flatten)
theorem zQq {l:List UInt8}(h:zJv l=true):l.length<=32:=by
 unfold zJv at h
 simp only[zAk,decide_eq_true_eq]at h
 exact h.1.1.2
theorem zR3 {l:List (List UInt8)}:(zUv l).length<=total l+l.length+1:=by
 have:=zAaq [32] l
 unfold zUv
 rw[zAt];simp at this ⊢;omega
theorem zXO {w:zTn}(h:w.wf):(zUt w).length<=42:=by
 unfold zUt
 cases hok:zH6 w
 ·simp
 cases hs:decide (w.op=[42])
 ·have hm:=(zXL hok hs).1
  have:∀ x∈zAfj,x.length<=2:=by decide
  have h1:=this _ hm
  have h2:=zRZ (v:=w.ver) h.ver.p3
  simp only[cond_true,cond_false,zAt];omega
 ·simp
theorem zQr {w:List UInt8}{d:Dep}(hw:w.length<=10)(hd:d.wf)(hn:zJv d.name=true):(zY6 w d).length<=100:=by
 have h1:=zQq hn
 have h2:=zXO hd.want
 have:=zR3 (l:=[w,d.name,zUt d.want])
 unfold zY6
 simp[total]at this ⊢;omega
theorem zP1 {α:Type}{f:α->List UInt8}{n:Nat}:∀ {l:List α},(∀ x∈l,(f x).length<=n)->(l.map f).flatten.length<=l.length*n
 | [],_=>by simp
 | x::l,h=>by
  have ih:=zP1 (f:=f) (n:=n) (l:=l) λy hy=>h y (zCY _ hy)
  have:=h x (List.mem_cons_self ..)
  rw[zA0,zA5,zAt,zAS,zCF];omega
theorem zAkl {a b c:List UInt8}:zF6 prg zBJ 3 [(0,str a),(1,str b),(2,str c)]=some ([a,b,c].map str).toArray:=zAnu
theorem zXP {P:zA1}{p:Nat}{H:zAx}{v:Value}{l:List Dep}{w acc:List UInt8}{k:zAm}
  (hv:SlE 6 P H v (l.map zFp)) (hP:∀ b,P b->b<p) (hb:BAt (p < ·) p H acc) (hp:p<H.size) (hw:∀ d∈l,d.wf) (hok:∀ d∈l,zJv d.name=true) (hl:l.length<=1048576) (hw8:w.length<=10) (hacc:acc.length<=1099511627776)
  (hO:zQW H) (hT:zXF H) (hN:NG<=p)
  (hk:∀ u h,BAt (p < ·) p h (acc++(l.map (zY6 w)).flatten)->Keep (p <= ·) H h->k u h) :
  L1 (λk10=>λt25_2 h11 =>
    Mpu (zAB .no .lss t25_2 (.int .i64 (l.length:Nat))) λt26 =>
    Mcd t26 (
     Mpu (ixS 6 v t25_2) λt27 =>
     Mpu (ldN 6 h11 t27) λt28 =>
     zDC h11 zAL (zBI prg zAL) λt6 h12 =>
     Mwr (stN 6 h12 t6 t28) λh13 =>
     Mpu (fld 0 t6) λt29 =>
     Mpu (ld1 h13 t29) λt30 =>
     Mpu (fld 1 t6) λt31 =>
     Mpu (ldN 5 h13 t31) λt32 =>
     zAX prg zFF [t32] h13 λt33 h14 =>
     Mre [(ld1 h14 t29,t30)] (
     zD2 h14 zBJ 3 (zF6 prg zBJ 3 [(0,str w),(1,t30),(2,t33)]) λt34 h15 =>
     zAX prg zEU [t34] h15 λt35 h16 =>
     zAX prg zB2 [Ptr p 0,t35] h16 λ_ h17 =>
     Mpu (zAB .no .add t25_2 (.int .i64 1)) λt37 =>
     k10 t37 h17)) (
     k t25_2 h11)) ((.int .i64 0)) H:=by
 refine zKj (λu h=>∃ i:Nat,i<=l.length/\u = .int .i64 (i:Nat)/\BAt (p < ·) p h (acc++((l.take i).map (zY6 w)).flatten)/\Keep (p <= ·) H h) (λu _=>match u with | .int _ t=>l.length-t.toNat|_=>0) ⟨0,zAz _,rfl,by simpa using hb,Keep.refl⟩ ?_
 rintro _ h ⟨i,hi,rfl,hbi,kh⟩ k2 hk2
 have e1:zAB .no .lss (.int .i64 (i:Nat)) (.int .i64 (l.length:Nat))=some (.bool (decide (i<l.length))):=by
  rw[zAJ];simp only[zC8];congr 2;rw[decide_eq_decide];omega
 rw[e1,zAa,zAl]
 by_cases hlt:i<l.length
 ·rw[if_pos (by simpa using hlt)]
  have hg:l[i]? = some l[i]:=zAj hlt
  obtain⟨b,o,hix,hpt,_⟩:=(hv.keep kh λb hb=>by have:=hP b hb;omega).at (i:=i) (x:=zFp l[i]) (by rw[zAq,hg];rfl)
  have hwd:=hw _ (zAH hlt)
  have hnd:=hok _ (zAH hlt)
  have htk:((l.take (i+1)).map (zY6 w)).flatten=((l.take i).map (zY6 w)).flatten++zY6 w l[i]:=by
   rw[zAG,hg,zAF,zBr]
   simp only[Option.toList_some,zA0,List.map_nil,zA5,zCp,zAP]
  generalize l[i]=d at *
  rw[hix .i64,zAa,hpt.agg (zEh hwd),zAa]
  simp only[zAkk,zBb]
  generalize hH6:h.push (.cells (zFp zQL).toArray zAL (0,0))=h6
  have k6:Keep zAK h h6:=by rw[<- hH6];exact Keep.push
  have a6:At h6 h.size (zFp zQL):=by rw[<- hH6];exact At.push
  obtain⟨h7,st7,a7,k7⟩:=a6.st (n:=6) (ds:=zFp d) (zEh zQp) (zEh hwd) zLc
  have g1:=kh.1
  have g6:=k6.1
  have k17:Keep zAK h h7:=k6.fresh k7 λb hb=>by omega
  have kH7:Keep (p <= ·) H h7:=kh.trans (k17.mono λ_ _ h=>h.elim)
  have d0:ld1 h7 (Ptr h.size 0)=some (str d.name):=a7.ld rfl
  rw[st7,zAW,zBf,zAa,zAu,d0,zAa,zBf,zAa,zAi,zAao a7 hwd,zAa]
  refine zAI (zAbm hwd.want (hO.keep kH7 λb hb=>by omega) (hT.keep kH7 λb hb=>by omega)) ?_
  rintro _ h8 ⟨rfl,k8⟩
  have d8:ld1 h8 (Ptr h.size 0)=some (str d.name):=(a7.keep k8 id).ld rfl
  refine⟨d8,?_⟩
  simp only[zAkl,zCo]
  generalize hH9:h8.push (.cells ([w,d.name,zUt d.want].map str).toArray zBJ (0,0))=h9
  have k9:Keep zAK h8 h9:=by rw[<- hH9];exact Keep.push
  have a9:At h9 h8.size ([w,d.name,zUt d.want].map str):=by rw[<- hH9];exact At.push
  have l1:=zQq hnd
  have l2:=zXO hwd.want
  refine zAI (zAc6 a9 rfl (by simp) (by simp[total];omega)) ?_
  rintro _ h10 ⟨rfl,k10⟩
  have kk:Keep zAK h h10:=k17.trans (k8.trans (k9.trans k10))
  have hb10:=hbi.keep kk λ_ _=>id
  have hdl:(zUv [w,d.name,zUt d.want]).length<=100:=zQr hw8 hwd hnd
  have hfl:=zP1 (f:=zY6 w) (n:=100) (l:=l.take i) λx hx=>zQr hw8 (hw x (zBw hx)) (hok x (zBw hx))
  have hti:(l.take i).length<=1048576:=by rw[zA4];omega
  have hsz:=kk.1
  refine zAI (zIc hb10 (by
   rw[zAt]
   have:(l.take i).length*100<=1048576*100:=zBq _ hti
   omega) λb hb=>by show p<b;omega) ?_
  rintro _ h11 ⟨rfl,hb11,k11⟩
  rw[zBV (by omega),zAa]
  refine hk2 _ _ ⟨i+1,by omega,rfl,?_,?_⟩ (by show l.length-(i+1)<l.length-i;omega)
  ·rw[htk,<- zBg];exact hb11
  ·exact(kh.trans (kk.mono λ_ _ h=>h.elim)).trans (k11.mono λb _ hb=>by rcases hb with hb|hb<;>omega)
 ·rw[if_neg (by simpa using hlt)]
  rw[zAr (by omega)]at hbi
  exact hk _ _ hbi kh
structure zAfy (q:Nat)(Fd Fc Ff:zA1)(m:Man)(h:zAx):Prop where
 ex:∃ vd vc vf,At h q (zGN m vd vc vf)/\BufE 6 Fd h vd (m.deps.map zFp)/\BufE 6 Fc h vc (m.conf.map zFp)/\BufE 34 Ff h vf (m.files.map zEj)
 nq:¬ Fd q/\¬ Fc q/\¬ Ff q
 dis:∀ b,¬ (Fd b/\Fc b)/\¬ (Fd b/\Ff b)/\¬ (Fc b/\Ff b)
 lt:∀ b,Fd b\/Fc b\/Ff b->b<h.size
 wf:m.wf
theorem zAfy.keep {q:Nat}{Fd Fc Ff S:zA1}{m:Man}{h h':zAx}(a:zAfy q Fd Fc Ff m h)(k:Keep S h h')(hs:∀ b,b=q\/Fd b\/Fc b\/Ff b->¬ S b):zAfy q Fd Fc Ff m h':=by
 obtain⟨vd,vc,vf,h1,h2,h3,h4⟩:=a.ex
 exact⟨⟨vd,vc,vf,h1.keep k (hs q (.inl rfl)),h2.keep k λb hb=>hs b (.inr (.inl hb)),h3.keep k λb hb=>hs b (.inr (.inr (.inl hb))),h4.keep k λb hb=>hs b (.inr (.inr (.inr hb)))⟩,a.nq,a.dis,λb hb=>zAM (a.lt b hb) k.1,a.wf⟩
def zAmX (s:List UInt8)(v:Ver):Prop:=(v.wf/\zG5 v=true/\zHO v=s)\/((∀ x:Ver,x.p.length=3->zG5 x=true->zHO x≠s)/\v=zEc)
theorem zAmX.wf {s:List UInt8}{v:Ver}(h:zAmX s v):v.wf:=by
 rcases h with h|⟨_,rfl⟩
 ·exact h.1
 ·exact zG7
def zAgW (s:List UInt8)(w:zTn):Prop:=(w.wf/\zH6 w=true/\zUt w=s)\/((∀ x:zTn,x.wf->zH6 x=true->zUt x≠s)/\w=zWx)
theorem zAgW.wf {s:List UInt8}{w:zTn}(h:zAgW s w):w.wf:=by
 rcases h with h|⟨_,rfl⟩
 ·exact h.1
 ·exact zTE
theorem Pt.closed {n0:Nat}{h h':zAx}{b o:Nat}{cs:List Value}(p:Pt h b o cs)(c:zOX n0 h h'):Pt h' b o cs:=by
 obtain⟨x,T,f,hb,h1⟩:=p
 exact⟨x,T,f,c.2.2 _ _ hb (λds e=>by cases e),h1⟩
theorem SlE.closed {n n0:Nat}{P:zA1}{h h':zAx}{v:Value}{xs:List (List Value)}(s:SlE n P h v xs)(c:zOX n0 h h'):SlE n P h' v xs:=by
 obtain⟨⟨a,k,h1,h2,h3⟩,h4,h5⟩:=s
 refine⟨⟨a,k,h1,h2,?_⟩,h4,h5⟩
 rcases h3 with h3|⟨b,o,e,hb,hp⟩
 ·exact .inl h3
 ·exact .inr ⟨b,o,e,hb,Pt.closed hp c⟩
theorem zLd.closed {P:zA1}{n0:Nat}{h h':zAx}{m:Man}{vd vc vf:Value}(v:zLd P h m vd vc vf)(c:zOX n0 h h'):zLd P h' m vd vc vf :=
 ⟨SlE.closed v.d c,SlE.closed v.c c,SlE.closed v.f c,v.wf⟩
def zAkm:Man:=⟨[],zEc,[],[],[]⟩
def zCn:Value := .slice none 0 0
def zAgX:List UInt8:=[104,101,108,108,111]
def mA1:Man:=⟨zAgX,⟨[1,0,0],[]⟩,[],[],[]⟩
def zAl8:Dep:=⟨[108,105,98,99],⟨[94],⟨[2,1,0],[]⟩⟩⟩
def mA2:Man:=⟨zAgX,⟨[1,0,0],[]⟩,[zAl8],[],[]⟩
def ms:Nat->Man
 | 0=>zAkm
 | 1=>mA1
 | _=>mA2
structure PA (n0 q2 q n5:Nat)(H:zAx)(j:Nat)(h:zAx):Prop where
 r:At h q2 (zGN zAkm zCn zCn zCn)
 m:∃ Fd Fc,zAfy q Fd Fc (λ_=>False) (ms j) h/\∀ b,Fd b\/Fc b->n5+2<=b
 k:Keep zAK H h
theorem PA.keep {n0 q2 q n5:Nat}{H:zAx}{j:Nat}{h h':zAx}{S:zA1}(p:PA n0 q2 q n5 H j h)(k:Keep S h h')(hs:∀ b,S b->H.size<=b/\b≠q2/\b≠q/\b<n5+2):PA n0 q2 q n5 H j h':=by
 obtain⟨Fd,Fc,h1,h2⟩:=p.m
 refine⟨p.r.keep k λh=>(hs _ h).2.1 rfl,⟨Fd,Fc,h1.keep k λb hb hS=>?_,h2⟩,p.k.fresh k λb hb=>(hs b hb).1⟩
 rcases hb with rfl|hb|hb|hb
 ·exact(hs _ hS).2.2.1 rfl
 ·have:=h2 b (.inl hb);have:=(hs b hS).2.2.2;omega
 ·have:=h2 b (.inr hb);have:=(hs b hS).2.2.2;omega
 ·exact hb
theorem zAiv {a:Option Addr}{n c:Nat}:zF6 prg zEv 1 [(0,.slice a n c)]=some #[.slice a n c]:=by kernel_rfl
theorem zAc7 {Pd:zA1}{H:zAx}{v:Value}{m:List UInt8}(hx:Sl Pd H v m)(hT:zRs H)(hPd:∀ b,Pd b->b<H.size)(hl:m.length<=1099511627776) :
  zAA prg zSz [v] H λu H'=>u=bv (zAbe (6::m))/\Keep zAK H H':=by
 apply zSI
 unfold zUg
 obtain⟨va,vc,hve,_⟩:=hx.sl
 simp only[zZY,zBb,hve,zAiv,zCo]
 rw[<- hve]
 generalize hH2:H.push (.cells (zBs zPY).toArray zB5 (0,0))=H2
 have k2:Keep zAK H H2:=by rw[<- hH2];exact Keep.push
 have hs2:H2.size=H.size+1:=by rw[<- hH2];simp
 have hr2:H2[H.size]? = some (.cells (zBs zPY).toArray zB5 (0,0)):=by rw[<- hH2];exact zCj
 generalize hH3:H2.push (.cells #[v] zEv (0,0))=H3
 have k3:Keep zAK H2 H3:=by rw[<- hH3];exact Keep.push
 have hs3:H3.size=H2.size+1:=by rw[<- hH3];simp
 have hv3:H3[H2.size]? = some (.cells #[v] zEv (0,0)):=by rw[<- hH3];exact zCj
 have kk:Keep zAK H H3:=k2.trans k3
 have sv:Sl Pd H3 v m:=hx.keep kk λ_ _=>id
 have hvv:SlE 1 (· = H2.size) H3 (.slice (some ⟨H2.size,0,none⟩) 1 1) (zHL ([(v,m)].map (·.1))):=by
  refine⟨⟨_,1,rfl,zAh _,.inr ⟨H2.size,0,rfl,rfl,?_⟩⟩,zQi,zVs (P:=Pd) (H:=H3) ?_⟩
  ·rw[zMw];exact Pt.of hv3
  ·intro x hx;simp at hx;subst hx;exact sv
 refine zAI (zXz (Pd:=Pd) hvv ?_ (hT.keep kk λ_ h=>h.elim) (λb hb=>by omega) (λb hb=>?_) ?_ (by simp)) ?_
 ·intro x hx;simp at hx;subst hx;exact sv
 ·have:=hPd b hb;omega
 ·simp[zKe];omega
 rintro _ H4 ⟨rfl,k4⟩
 have hr4:=(k3.trans k4).at hr2 id
 have e6:(bO 6::zKe [(v,m)])=6::m:=by simp[zKe];rfl
 rw[zRJ hr4 (n:=32) rfl zFa,zAW,zPG (zBm hr4) zFa,zAa]
 refine⟨by rw[e6],?_⟩
 have:=(kk.trans k4)
 refine⟨by simp;exact this.1,λi hi _=>?_⟩
 rw[zAE,if_neg (by omega),this.2 i hi id]
def zWC:zHt:=⟨[],List.replicate 32 0,0⟩
theorem zWD:zWC.wf:=⟨by simp[zWC],by simp[zWC],by simp[zWC]⟩
theorem zAc8:zBI prg zBn=some (zEj zWC).toArray:=by kernel_rfl
section
variable {h:zAx} {b o:Nat} {f:zHt}
theorem zAiw (a:Pt h b o (zEj f)):ld1 h (Ptr b o)=some (str f.name):=a.cell0 rfl
theorem zY7 (a:Pt h b o (zEj f))(hf:f.wf):ld1 h (Ptr b (o+33))=some (.int .i64 f.size):=a.cell (i:=33) (by
 unfold zEj
 rw[zC4,zBe (by simp[hf.sum])]
 simp[hf.sum])
theorem zAc9 (a:Pt h b o (zEj f))(hf:f.wf):ldN 32 h (Ptr b (o+1))=some (bv f.sum):=by
 have:Pt h b (o+1) (zBs f.sum):=Pt.mid (A:=[str f.name]) (B:=zBs f.sum) (C:=[.int .i64 f.size]) (o:=o) (by simpa [zEj] using a) (by simp)
 exact this.agg (by simp[hf.sum])
end
structure BSS (P Q:zA1)(H:zAx)(v:Value)(xs:List (Value×List UInt8)):Prop where
 sl:SlE 1 P H v (zHL (xs.map (·.1)))
 el:∀ x∈xs,Sl Q H x.1 x.2
theorem BSS.keep {P Q S:zA1}{H H':zAx}{v:Value}{xs:List (Value×List UInt8)}(h:BSS P Q H v xs)(k:Keep S H H')(h1:∀ b,P b->¬ S b)(h2:∀ b,Q b->¬ S b):BSS P Q H' v xs :=
 ⟨h.sl.keep k h1,λx hx=>(h.el x hx).keep k h2⟩
theorem BSS.len {P Q:zA1}{H:zAx}{v:Value}{xs:List (Value×List UInt8)}(h:BSS P Q H v xs):lenV v=some (.int .i64 xs.length):=by have:=h.sl.len;simpa using this
theorem BSS.at {P Q:zA1}{H:zAx}{v:Value}{xs:List (Value×List UInt8)}(h:BSS P Q H v xs){i:Nat}{x:Value×List UInt8}(hi:xs[i]? = some x):Sl Q H x.1 x.2/\∃ p,(∀ k,ixS 1 v (.int k i)=some p)/\ld1 H p=some x.1:=by
 obtain⟨b,o,hix,hpt,_⟩:=h.sl.at (i:=i) (x:=[x.1]) (zN7 (by simp[hi]))
 exact⟨h.el x (zAC hi),Ptr b o,hix,hpt.cell0 rfl⟩
def zXQ (f:zHt)(b:List UInt8):Bool:=decide ((b.length:Int)=f.size)&&decide (zAbe (6::b)=f.sum)
def zFj:List zHt->List (List UInt8)->Bool
 | f::fs,b::bs=>zXQ f b&&zFj fs bs
 | [],[]=>true
 | _,_=>false
theorem zXR:∀ {fs:List zHt} {bs:List (List UInt8)} {i:Nat} {f:zHt} {b:List UInt8},fs[i]? = some f->bs[i]? = some b->zFj (fs.take (i+1)) (bs.take (i+1))=(zFj (fs.take i) (bs.take i)&&zXQ f b)
 | [],_,i,f,b,h,_=>by simp at h
 | _::_,[],i,f,b,_,h=>by simp at h
 | g::fs,c::bs,0,f,b,h1,h2=>by
  simp at h1 h2;subst h1 h2
  simp[zFj]
 | g::fs,c::bs,i+1,f,b,h1,h2=>by
  have ih:=zXR (fs:=fs) (bs:=bs) (i:=i) (f:=f) (b:=b) (by simpa using h1) (by simpa using h2)
  rw[zBX,zBX,zFj,ih,zBX,zBX,zFj,Bool.and_assoc]
theorem zAar:∀ {fs:List zHt} {bs:List (List UInt8)} {i:Nat} {f:zHt} {b:List UInt8},fs[i]? = some f->bs[i]? = some b->zXQ f b=false->zFj fs bs=false
 | [],_,i,f,b,h,_,_=>by simp at h
 | _::_,[],i,f,b,_,h,_=>by simp at h
 | g::fs,c::bs,0,f,b,h1,h2,h3=>by
  simp at h1 h2;subst h1 h2
  simp[zFj,h3]
 | g::fs,c::bs,i+1,f,b,h1,h2,h3=>by
  have ih:=zAar (fs:=fs) (bs:=bs) (i:=i) (f:=f) (b:=b) (by simpa using h1) (by simpa using h2) h3
  rw[zFj,ih,zBG]
theorem zAas:∀ {fs:List zHt} {bs:List (List UInt8)},bs.length≠fs.length->zFj fs bs=false
 | [],[],h=>absurd rfl h
 | [],_::_,_=>rfl
 | _::_,[],_=>rfl
 | f::fs,b::bs,h=>by
  rw[zFj,zAas (fs:=fs) (bs:=bs) (λe=>h (by simp[e])),zBG]
theorem zY8 {n:Nat}{s:Int}:zAB .no .neq (.int .i64 (n:Nat)) (.int .i64 s)=some (.bool (!decide ((n:Int)=s))):=by
 rw[zAJ];simp only[zC8];congr 2
theorem zAda {P Q R:zA1}{H:zAx}{m:Man}{vd vc vf v:Value}{xs:List (Value×List UInt8)}(hv:zLd P H m vd vc vf)(hx:BSS Q R H v xs)(hR:∀ b,R b->b<H.size)(hl:xs.length=m.files.length->xs.length<=1048576)(hb:∀ (i:Nat) (x:Value×List UInt8) (f:zHt),xs[i]? = some x->m.files[i]? = some f->(x.2.length:Int)=f.size->x.2.length<=1048576)(hT:zRs H) :
  zAA prg zE1 [.agg (zGN m vd vc vf).toArray,v] H λu H'=>u = .bool (zFj m.files (xs.map (·.2)))/\Keep zAK H H':=by
 apply zKV
 unfold zIL
 simp only[zB8,zBb]
 generalize hH1:H.push (.cells (zGN m vd vc vf).toArray zAe (0,0))=H1
 have k1:Keep zAK H H1:=by rw[<- hH1];exact Keep.push
 have a1:At H1 H.size (zGN m vd vc vf):=by rw[<- hH1];exact At.push
 have w:=hv.wf
 have g7:=(zHv a1 w).2.2
 have lf:lenV vf=some (.int .i64 m.files.length):=by have:=hv.f.len;rwa [zAd]at this
 have en:zAB .no .neq (.int .i64 (xs.length:Nat)) (.int .i64 (m.files.length:Nat))=some (.bool (!decide (xs.length=m.files.length))):=by
  rw[zAJ];simp only[zC8];congr 2;rw[zAR];simp<;>omega
 rw[hx.len,zAa,zBf,zAa,zAi,g7,zAa,lf,zAa,en,zAa,zAl]
 by_cases hne:xs.length=m.files.length
 ·rw[if_neg (by simp[hne])]
  have hl:=hl hne
  refine zOt (λ_ h=>zFj m.files (xs.map (·.2))=true/\Keep zAK H h) (λk hk=>?_) ?_
  ·rw[zAa,g7,zAa,lf,zAa]
   refine zKj (λu h=>∃ i:Nat,i<=m.files.length/\u = .int .i64 (i:Nat)/\zFj (m.files.take i) ((xs.map (·.2)).take i)=true/\Keep zAK H1 h) (λu _=>match u with | .int _ t=>m.files.length-t.toNat|_=>0) ⟨0,zAz _,rfl,rfl,Keep.refl⟩ ?_
   rintro _ h ⟨i,hi,rfl,hall,kh⟩ k2 hk2
   have e1:zAB .no .lss (.int .i64 (i:Nat)) (.int .i64 (m.files.length:Nat))=some (.bool (decide (i<m.files.length))):=by
    rw[zAJ];simp only[zC8];congr 2;rw[decide_eq_decide];omega
   rw[e1,zAa,zAl]
   by_cases hlt:i<m.files.length
   ·rw[if_pos (by simpa using hlt)]
    have k0:=k1.trans kh
    have hg:m.files[i]? = some m.files[i]:=zAj hlt
    have hgx:xs[i]? = some (xs[i]'(by omega)):=zAj (by omega)
    obtain⟨b,o,hix,hpt,_⟩:=(hv.f.keep k0 λ_ _=>id).at (i:=i) (x:=zEj m.files[i]) (by rw[zAq,hg];rfl)
    have hwf:=w.files _ (zAH hlt)
    have hbl:=hb i _ _ hgx hg
    have hgb:(xs.map (·.2))[i]? = some (xs[i]'(by omega)).2:=by rw[zAq,hgx];rfl
    have hft:=zXR hg hgb
    rw[hall,zBa]at hft
    have hfb:=zAar hg hgb
    generalize m.files[i]=f at *
    generalize (xs[i]'(by omega))=x at *
    rw[hix .i64,zAa,hpt.agg (zDR hwf),zAa]
    simp only[zAc8,zBb]
    generalize hH6:h.push (.cells (zEj zWC).toArray zBn (0,0))=h6
    have k6:Keep zAK h h6:=by rw[<- hH6];exact Keep.push
    have a6:At h6 h.size (zEj zWC):=by rw[<- hH6];exact At.push
    obtain⟨h7,st7,a7,k7⟩:=a6.st (n:=34) (ds:=zEj f) (zDR zWD) (zDR hwf) zM5
    have g0:=k0.1
    have k07:Keep zAK H h7:=(k0.trans k6).fresh k7 λb hb=>by omega
    have k17:Keep zAK H1 h7:=(kh.trans k6).fresh k7 λb hb=>by have:=kh.1;omega
    have hx7:=hx.keep k07 (λ_ _=>id) λ_ _=>id
    obtain⟨hs,p,hp,hld⟩:=hx7.at hgx
    have d33:=zY7 a7.pt hwf
    have d1:=zAc9 a7.pt hwf
    rw[zAi]at d33 d1
    rw[st7,zAW,hp .i64,zAa,hld,zAa,hs.len,zAa,zBf,zAa,zAi,d33,zAa,zY8,zAa]
    have bad:zXQ f x.2=false->∀ g,Keep zAK H g->Value.bool false = .bool (zFj m.files (xs.map (·.2)))/\Keep zAK H g:=λhf g kg=>⟨by rw[hfb hf],kg⟩
    cases hsz:decide ((x.2.length:Int)=f.size)
    ·simp only[zA7,zAg,zAf,zAQ,zAU,zAv,zAl,zAa,if_true,if_false,zAb,zAc,decide_true,decide_false,reduceCtorEq,zBT,zEL,zEM,zEI,zEJ,zEK,zBp,zA8]
     exact bad (by simp[zXQ,hsz]) _ k07
    ·have hbl:=hbl (of_decide_eq_true hsz)
     simp only[hp .i64,hld,zBf,zAi,d1,zA7,zAg,zAf,zAQ,zAU,zAv,zAl,zAa,if_true,if_false,zAb,zAc,decide_true,decide_false,reduceCtorEq,zBT,zEL,zEM,zEI,zEJ,zEK,zBp,zA8]
     refine zAI (zAc7 hs (hT.keep k07 λ_ h=>h.elim) (λb hb=>zAM (hR b hb) k07.1) (by omega)) ?_
     rintro _ h9 ⟨rfl,k9⟩
     have d1':=zAc9 (a7.keep k9 id).pt hwf
     rw[zAi]at d1'
     refine⟨d1',?_⟩
     rw[zA8,zAic zFa hwf.sum,zAa]
     cases hsm:decide (zAbe (6::x.2)=f.sum)
     ·simp only[zA7,zAg,zAf,zAQ,zAU,zAv,zAl,zAa,if_true,if_false,zAb,zAc,decide_true,decide_false,reduceCtorEq,zBT,zEL,zEM,zEI,zEJ,zEK,zBp,zA8]
      exact bad (by simp[zXQ,hsm]) _ (k07.trans k9)
     ·simp only[zA7,zAg,zAf,zAQ,zAU,zAv,zAl,zAa,if_true,if_false,zAb,zAc,decide_true,decide_false,reduceCtorEq,zBT,zEL,zEM,zEI,zEJ,zEK,zBp,zA8]
      rw[zBV (by omega),zAa]
      exact hk2 _ _ ⟨i+1,by omega,rfl,by rw[hft];simp[zXQ,of_decide_eq_true hsz,of_decide_eq_true hsm],k17.trans k9⟩ (by show m.files.length-(i+1)<m.files.length-i;omega)
   ·rw[if_neg (by simpa using hlt)]
    refine hk _ _ ⟨?_,k1.trans kh⟩
    rwa [zAr (by omega),zAr (by simp;omega)]at hall
  ·rintro _ h ⟨h1,h2⟩
   exact⟨by rw[h1],h2⟩
 ·rw[if_pos (by simp[hne])]
  exact⟨by rw[zAas (by simpa using hne)],k1⟩
theorem zAkn {n m:Nat}:zAB .no .gtr (.int .i64 (n:Nat)) (.int .i64 (m:Nat))=some (.bool (decide (n > m))):=by
 rw[zAJ];simp only[zC8];congr 2;rw[decide_eq_decide];omega
theorem zAix {h:zAx}{q:Nat}{m:Man}{vd vc vf:Value}(a:At h q (zGN m vd vc vf))(hm:m.wf):ld1 h (Ptr q 4)=some (str m.ver.pre):=a.ld (by
 obtain⟨x,y,z,e⟩:=Ver.cases3 hm.ver
 obtain⟨n,⟨p,pre⟩,d,c,f⟩:=m
 simp only at e
 subst e
 rfl)
end Go.Proofs.YticdfkoncnnmmaaGreatDoor
namespace Go.Proofs.YticdfkoncnnmmaaGreatDoor.Came
open Go.X
theorem zAfz {q:List (List Value)}(h:∀ x∈q,∃ y:Dep,y.wf/\x=zFp y):∃ ys:List Dep,q=ys.map zFp/\∀ y∈ys,y.wf:=by
 induction q with
 | nil=>exact⟨[],rfl,λy h=>by cases h⟩
 | cons x q ih =>
  obtain⟨ys,hy,hw⟩:=ih λx hx=>h x (by simp[hx])
  obtain⟨y,yw,rfl⟩:=h x (by simp)
  exact⟨y::ys,by rw[hy];rfl,λz hz=>by
   rcases zAs.1 hz with rfl|hz
   ·exact yw
   ·exact hw z hz⟩
theorem zAdb {q:List (List Value)}(h:∀ x∈q,∃ y:zHt,y.wf/\x=zEj y):∃ ys:List zHt,q=ys.map zEj/\∀ y∈ys,y.wf:=by
 induction q with
 | nil=>exact⟨[],rfl,λy h=>by cases h⟩
 | cons x q ih =>
  obtain⟨ys,hy,hw⟩:=ih λx hx=>h x (by simp[hx])
  obtain⟨y,yw,rfl⟩:=h x (by simp)
  exact⟨y::ys,by rw[hy];rfl,λz hz=>by
   rcases zAs.1 hz with rfl|hz
   ·exact yw
   ·exact hw z hz⟩
theorem zAl9:zAfu zAL [(0,zBJ),(1,zBZ)]=true:=by kernel_rfl
theorem zAgY:prg.cellsOf zAL=6:=by kernel_rfl
theorem zAko {w:World}{d:Nat}{cs:List Value}(h:Shp prg w d zAL cs):∃ x:Dep,x.wf/\cs=zFp x:=by
 obtain⟨d',hl,hfl⟩:=zOP zAl9 h
 rw[zAgY]at hl
 have h0:=hfl 0 0 zBJ rfl
 have h1:=hfl 1 1 zBZ rfl
 rw[zM4]at h0;rw[zAc3]at h1
 obtain⟨s,hs,hsl⟩:=zSF zOQ h0
 obtain⟨n,hsn,hnl⟩:=str_of hsl
 obtain⟨v,hv,hvc⟩:=zAit h1
 refine⟨⟨n,v⟩,⟨hv,hnl⟩,?_⟩
 have e1:cs=(cs.drop 0).take 1++(cs.drop 1).take 5:=by
  rw[zAr (l:=cs.drop 1) (by simp;omega),zB4]
  exact(zBl 1 cs).symm
 rw[e1,hs,hvc,hsn];rfl
theorem zAkp:zAfu zBn [(0,zBJ),(1,zB5),(33,zIC)]=true:=by kernel_rfl
theorem zAdc:prg.cellsOf zBn=34:=by kernel_rfl
theorem zAkq:prg.cellsOf zIC=1:=by kernel_rfl
theorem zAiy {w:World}{d:Nat}{cs:List Value}(h:Shp prg w d zBn cs):∃ x:zHt,x.wf/\cs=zEj x:=by
 obtain⟨d',hl,hfl⟩:=zOP zAkp h
 rw[zAdc]at hl
 have h0:=hfl 0 0 zBJ rfl
 have h1:=hfl 1 1 zB5 rfl
 have h2:=hfl 2 33 zIC rfl
 rw[zM4]at h0;rw[zWA]at h1;rw[zAkq]at h2
 obtain⟨s,hs,hsl⟩:=zSF zOQ h0
 obtain⟨n,hsn,hnl⟩:=str_of hsl
 obtain⟨e,he,hu,hc⟩:=zAgU
 obtain⟨l,hll,hlc,hlw⟩:=zWc he hu hc zWA h1
 obtain⟨r,hr,hrc⟩:=zVm hlw
 obtain⟨k,hk,hkw⟩:=shp_int zAlZ h2
 refine⟨⟨n,r,k⟩,⟨hnl,by show r.length=32;omega,zAis hkw⟩,?_⟩
 have e1:cs=(cs.drop 0).take 1++((cs.drop 1).take 32++(cs.drop 33).take 1):=by
  rw[zAr (l:=cs.drop 33) (by simp;omega),zB4]
  have h33:cs.drop 33=(cs.drop 1).drop 32:=by rw[zCy]
  rw[h33,zBl]
  exact(zBl 1 cs).symm
 rw[e1,hs,hlc,hrc,hk,hsn];rfl
theorem zAkr:prg.underlying zDp=some (.slice zAL):=by kernel_rfl
theorem zAiz:prg.underlying zGG=some (.slice zBn):=by kernel_rfl
theorem zAdd {w:World}{d:Nat}{cs:List Value}(hl:cs.length=1)(h:Shp prg w d zDp cs):∃ v,cs=[v]/\∃ xs:List Dep,SlE 6 (· < w.heap.size) w.heap v (xs.map zFp)/\∀ x∈xs,x.wf:=by
 match cs,hl with
 | [v],_ =>
  refine⟨v,rfl,?_⟩
  cases d with
  | zero=>exact h.elim
  | succ d =>
   simp only[Shp,zAkr]at h
   rcases h with h|⟨a,len,cap,hv,hle,hcap,hel⟩
   ·obtain rfl:v = .slice none 0 0:=by simpa using h
    exact⟨[],SlE.nil,λx h=>by cases h⟩
   ·obtain rfl:v = .slice (some a) len cap:=by simpa using hv
    rw[zAgY]at hel
    obtain⟨q,hq,hs,hqi⟩:=zJl (n:=6) (q:=λcs=>∃ y:Dep,y.wf/\cs=zFp y) (by omega) hle (λcs ⟨y,_,e⟩ c hc=>by subst e;exact zLc c hc) λi hi=>by
     obtain⟨cs',h1,h2⟩:=hel i hi
     exact⟨cs',h1,zAko h2⟩
    obtain⟨ys,rfl,hw⟩:=zAfz hqi
    exact⟨ys,hs,hw⟩
theorem zAfA {w:World}{d:Nat}{cs:List Value}(hl:cs.length=1)(h:Shp prg w d zGG cs):∃ v,cs=[v]/\∃ xs:List zHt,SlE 34 (· < w.heap.size) w.heap v (xs.map zEj)/\∀ x∈xs,x.wf:=by
 match cs,hl with
 | [v],_ =>
  refine⟨v,rfl,?_⟩
  cases d with
  | zero=>exact h.elim
  | succ d =>
   simp only[Shp,zAiz]at h
   rcases h with h|⟨a,len,cap,hv,hle,hcap,hel⟩
   ·obtain rfl:v = .slice none 0 0:=by simpa using h
    exact⟨[],SlE.nil,λx h=>by cases h⟩
   ·obtain rfl:v = .slice (some a) len cap:=by simpa using hv
    rw[zAdc]at hel
    obtain⟨q,hq,hs,hqi⟩:=zJl (n:=34) (q:=λcs=>∃ y:zHt,y.wf/\cs=zEj y) (by omega) hle (λcs ⟨y,_,e⟩ c hc=>by subst e;exact zM5 c hc) λi hi=>by
     obtain⟨cs',h1,h2⟩:=hel i hi
     exact⟨cs',h1,zAiy h2⟩
    obtain⟨ys,rfl,hw⟩:=zAdb hqi
    exact⟨ys,hs,hw⟩
theorem zAma:zAfu zAe [(0,zBJ),(1,zAO),(5,zDp),(6,zDp),(7,zGG)]=true:=by kernel_rfl
theorem zAde:prg.cellsOf zAe=8:=by kernel_rfl
theorem zAiA:prg.cellsOf zDp=1:=by kernel_rfl
theorem zAfB:prg.cellsOf zGG=1:=by kernel_rfl
theorem zAgZ {w:World}{d:Nat}{cs:List Value}(h:Shp prg w d zAe cs):∃ (m:Man) (vd vc vf:Value),zLd (· < w.heap.size) w.heap m vd vc vf/\cs=zGN m vd vc vf:=by
 obtain⟨d',hl,hfl⟩:=zOP zAma h
 rw[zAde]at hl
 have h0:=hfl 0 0 zBJ rfl
 have h1:=hfl 1 1 zAO rfl
 have h2:=hfl 2 5 zDp rfl
 have h3:=hfl 3 6 zDp rfl
 have h4:=hfl 4 7 zGG rfl
 rw[zM4]at h0;rw[zAal]at h1;rw[zAiA]at h2 h3;rw[zAfB]at h4
 obtain⟨s,hs,hsl⟩:=zSF zOQ h0
 obtain⟨n,hsn,hnl⟩:=str_of hsl
 obtain⟨v,hv,hvc⟩:=zAc1 h1
 obtain⟨vd,hvd,ds,hds,hdw⟩:=zAdd (by simp;omega) h2
 obtain⟨vc,hvc',cc,hcs,hcw⟩:=zAdd (by simp;omega) h3
 obtain⟨vf,hvf,fs,hfs,hfw⟩:=zAfA (by simp;omega) h4
 refine⟨⟨n,v,ds,cc,fs⟩,vd,vc,vf,⟨hds,hcs,hfs,⟨hnl,hv,hdw,hcw,hfw⟩⟩,?_⟩
 have e1:cs=(cs.drop 0).take 1++((cs.drop 1).take 4++((cs.drop 5).take 1++((cs.drop 6).take 1++(cs.drop 7).take 1))):=by
  match cs,hl with
  | [a,b,c,d,e,f,g,i],_=>rfl
 rw[e1,hs,hvc,hvd,hvc',hvf,hsn];rfl
theorem zAks:prg.underlying zEv=some (.slice zCl):=by kernel_rfl
theorem zAmb:prg.underlying zCl=some (.int .u8):=by kernel_rfl
theorem zAkt:prg.cellsOf zCl=1:=by kernel_rfl
theorem zAdf {q:List (List Value)}(h:∀ x∈q,∃ y:UInt8,x=[.int .u8 y.toNat]):∃ l:List UInt8,q=l.map λy=>[Value.int .u8 y.toNat]:=by
 induction q with
 | nil=>exact⟨[],rfl⟩
 | cons x q ih =>
  obtain⟨l,hl⟩:=ih λx hx=>h x (by simp[hx])
  obtain⟨y,rfl⟩:=h x (by simp)
  exact⟨y::l,by rw[hl];rfl⟩
theorem zXS:∀ l:List UInt8,(l.map λy=>[Value.int .u8 y.toNat]).flatten=zBs l
 | []=>rfl
 | x::l=>by rw[zA0,zA5,zXS l];rfl
theorem zAmc {w:World}{d:Nat}{cs:List Value}(hl:cs.length=1)(h:Shp prg w d zEv cs):∃ v,cs=[v]/\∃ l:List UInt8,l.length<=9223372036854775807/\Sl (· < w.heap.size) w.heap v l:=by
 match cs,hl with
 | [v],_ =>
  refine⟨v,rfl,?_⟩
  cases d with
  | zero=>exact h.elim
  | succ d =>
   simp only[Shp,zAks]at h
   rcases h with h|⟨a,len,cap,hv,hle,hcap,hel⟩
   ·obtain rfl:v = .slice none 0 0:=by simpa using h
    exact⟨[],by simp,Sl.nil⟩
   ·obtain rfl:v = .slice (some a) len cap:=by simpa using hv
    rw[zAkt]at hel
    have h1c:∀ cs:List Value,(∃ y:UInt8,cs=[.int .u8 y.toNat])->∀ c∈cs,c.oneCell'=true:=by
     rintro _ ⟨y,rfl⟩ c hc
     obtain rfl:c=_:=by simpa using hc
     rfl
    obtain⟨q,hq,hs,hqi⟩:=zJl (n:=1) (q:=λcs=>∃ y:UInt8,cs=[.int .u8 y.toNat]) (by omega) hle h1c λi hi=>by
     obtain⟨cs',h1,h2⟩:=hel i hi
     obtain⟨n,hn,hw⟩:=Go.X.shp_int zAmb h2
     refine⟨cs',h1,UInt8.ofNat n.toNat,?_⟩
     rw[hn]
     have:0<=n/\n<=255:=by
      simp only[Lit.wf,IntKind.min,IntKind.max,IntKind.signed,IntKind.bits]at hw
      simp at hw
      omega
     have e:(((UInt8.ofNat n.toNat).toNat:Nat):Int)=n:=by rw[UInt8.toNat_ofNat'];omega
     rw[e]
    obtain⟨l,rfl⟩:=zAdf hqi
    rw[zAd]at hq
    have hm:maxLen=9223372036854775807:=rfl
    obtain⟨⟨a',c',he,hc,hx⟩,_,_⟩:=hs
    rw[zAd]at he
    cases he
    rcases hx with hx|⟨b,o,e,hb',⟨cs,T,f,hb,h1,h2⟩⟩
    ·have:l=[]:=by simpa using hx
     subst this
     exact⟨[],by simp,zTf,⟨some a,cap,rfl,zAz _,λ_ _=>rfl⟩,λb hb=>absurd rfl (zHY hb).2⟩
    ·cases e
     have hfl:=zXS l
     rw[hfl]at h1 h2
     have hbl:(zBs l).length=l.length:=by simp[zBs]
     exact⟨l,by omega,Bs.mk hb rfl (by omega) (by rw[<- hbl];exact h2),⟨_,cap,rfl,by omega,λ_ _=>rfl⟩,λb2 hb2=>by obtain⟨rfl,_⟩:=zHY hb2;exact hb'⟩
theorem zAku:prg.underlying zMH=some (.slice zEv):=by kernel_rfl
theorem zAiB:prg.cellsOf zEv=1:=by kernel_rfl
theorem zAkv {w:World}{q:List (List Value)}(h:∀ x∈q,∃ v,x=[v]/\∃ l:List UInt8,l.length<=9223372036854775807/\Sl (· < w.heap.size) w.heap v l):∃ xs:List (Value×List UInt8),q=zHL (xs.map (·.1))/\∀ x∈xs,Sl (· < w.heap.size) w.heap x.1 x.2:=by
 induction q with
 | nil=>exact⟨[],rfl,λx h=>by cases h⟩
 | cons x q ih =>
  obtain⟨xs,hx,hw⟩:=ih λx hx=>h x (by simp[hx])
  obtain⟨v,rfl,l,_,hs⟩:=h x (by simp)
  exact⟨(v,l)::xs,by rw[hx];rfl,λz hz=>by
   rcases zAs.1 hz with rfl|hz
   ·exact hs
   ·exact hw z hz⟩
theorem zAkw {w:World}{d:Nat}{v:Value}(h:Shp prg w d zMH [v]):∃ xs:List (Value×List UInt8),xs.length<=9223372036854775807/\BSS (· < w.heap.size) (· < w.heap.size) w.heap v xs:=by
 cases d with
 | zero=>exact h.elim
 | succ d =>
  simp only[Shp,zAku]at h
  rcases h with h|⟨a,len,cap,hv,hle,hcap,hel⟩
  ·obtain rfl:v = .slice none 0 0:=by simpa using h
   exact⟨[],by simp,SlE.nil,λx h=>by cases h⟩
  ·obtain rfl:v = .slice (some a) len cap:=by simpa using hv
   rw[zAiB]at hel
   obtain⟨q,hq,hs,hqi⟩:=zJl (n:=1) (q:=λcs=>cs.length=1/\∃ v,cs=[v]/\∃ l:List UInt8,l.length<=9223372036854775807/\Sl (· < w.heap.size) w.heap v l) (by omega) hle (λcs ⟨_,v,e,l,_,hs⟩ c hc=>by subst e;simp at hc;subst hc;exact hs.one) λi hi=>by
    obtain⟨cs',h1,h2⟩:=hel i hi
    have hl1:cs'.length=1:=(World.cells?_some h1).2.1
    exact⟨cs',h1,hl1,zAmc hl1 h2⟩
   obtain⟨xs,rfl,hw⟩:=zAkv λx hx=>(hqi x hx).2
   have hm:maxLen=9223372036854775807:=rfl
   refine⟨xs,?_,hs,hw⟩
   rw[zUb,zAd]at hq
   omega
theorem zAfC {W:World}(h:laidMetH Tryz.prog Rows.planMakesRow.laid W)(ho:W.ShapedOpen Tryz.prog):zWz W.heap/\zRs W.heap:=by
 refine⟨?_,(tables h ho).1⟩
 have h:laidMet Tryz.prog Rows.planMakesRow.laid W:=h
 obtain⟨ps,hv,_⟩:=h
 obtain⟨t,ms,h1,h2,hu⟩:=zAl3
 refine⟨⟨?_,?_⟩,⟨?_,zAlu ho⟩,?_⟩
 ·obtain⟨cs,T,f,fuel,p,hb,hd⟩:=zAam (dd:=Rows.laid_strconv_ErrSyntax) zY4 h1 hv (by repeat (first|exact List.Mem.head _|refine List.Mem.tail _ ?_))
  obtain⟨T',x,hcs⟩:=zAan hu hd
  exact⟨T',x,T,f,by rw[hb];congr 2;apply Array.ext';rw[hcs]⟩
 ·obtain⟨cs,T,f,fuel,p,hb,hd⟩:=zAam (dd:=Rows.laid_strconv_ErrRange) zAbn h2 hv (by repeat (first|exact List.Mem.head _|refine List.Mem.tail _ ?_))
  obtain⟨T',x,hcs⟩:=zAan hu hd
  exact⟨T',x,T,f,by rw[hb];congr 2;apply Array.ext';rw[hcs]⟩
 ·exact zXw (t:=zTe) (e:=zZU) (n:=20) zAc2 (by kernel_rfl) (by kernel_rfl) (by kernel_rfl) (by kernel_rfl) (by kernel_rfl) hv (by repeat (first|exact List.Mem.head _|refine List.Mem.tail _ ?_))
 ·obtain⟨t,ht,hu,hc⟩:=zAl5
  obtain⟨cs,T,f,fuel,p,hb,hd⟩:=zAam (dd:=zAl2 zAaj) zAl4 ht hv (by repeat (first|exact List.Mem.head _|refine List.Mem.tail _ ?_))
  have:=zWB hu zOQ zM4 hc hd
  exact⟨T,f,by rw[hb];congr 2;apply Array.ext';rw[this]⟩
def zAbq (h:Array Obj):Array Obj:=lay (lay (zAbo h) zMF (flat Rows.laid_syngraph_sha_begin)) zI7 (flat Rows.laid_syngraph_sha_table)
noncomputable def zRi (os:Os):World :=
 { World.holding Tryz.prog os ⟨#[],#[],[]⟩ with heap:=zAbq (World.holding Tryz.prog os ⟨#[],#[],[]⟩).heap }
end Go.Proofs.YticdfkoncnnmmaaGreatDoor.Came
