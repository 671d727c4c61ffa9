import Derived.Test.YticdfkoncnnmmaaGreatDoorGO
import Derived.Test.YticdfkoncnnmmaaGreatDoorGU
import Derived.Test.YticdfkoncnnmmaaGreatDoorGI
import Derived.Test.YticdfkoncnnmmaaGreatDoorGV
set_option linter.unusedSimpArgs false
set_option linter.unusedVariables false
set_option maxRecDepth 100000
namespace Go.Proofs.YticdfkoncnnmmaaGreatDoor
open Go.X Go.X.Diff
theorem zAdu:zBF prg zBW=some [str []].toArray:=by kernel_rfl
structure Dep where
 name:List UInt8
 want:zSW
structure Dep.wf (d:Dep):Prop where
 want:d.want.wf
 name:d.name.length<=9223372036854775807
def zE7 (d:Dep):List Value:=str d.name::zEQ d.want
def zQF:Dep:=⟨[],zUM⟩
theorem zNT:zQF.wf:=⟨zR9,by simp[zQF]⟩
theorem zEa {d:Dep}(h:d.wf):(zE7 d).length=6:=by simp[zE7,zFf h.want]
theorem zLx {d:Dep}:∀ c∈zE7 d,c.oneCell'=true:=by
 intro c hc
 rcases zAp.1 hc with rfl|hc
 ·rfl
 ·exact zSX c hc
theorem zAjR:zBF prg zAH=some (zE7 zQF).toArray:=by kernel_rfl
theorem zAjS:zMN prg zAH=some ([(0,1),(1,5)],(zE7 zQF).toArray):=by kernel_rfl
theorem zUO {h:zAw}{q:Nat}{d:Dep}(a:At h q (zE7 d))(hd:d.wf):ldN 5 h (Ptr q 1)=some (.agg (zEQ d.want).toArray):=by
 obtain⟨T,a⟩:=a
 exact ldN_mid (A:=[str d.name]) (B:=zEQ d.want) (C:=[]) (by rw[zAS];exact a) rfl (zFf hd.want).symm
structure zHA where
 name:List UInt8
 sum:List UInt8
 size:Int
def zEm (f:zHA):List Value:=str f.name::(zBG f.sum++[.int .i64 f.size])
structure zHA.wf (f:zHA):Prop where
 name:f.name.length<=9223372036854775807
 sum:f.sum.length=32
 size : -9223372036854775808<=f.size/\f.size<=9223372036854775807
theorem zEb {f:zHA}(h:f.wf):(zEm f).length=34:=by simp[zEm,h.sum]
theorem zNw {f:zHA}:∀ c∈zEm f,c.oneCell'=true:=by
 intro c hc
 rcases zAp.1 hc with rfl|hc
 ·rfl
 ·rcases zAr.1 hc with hc|hc
  ·exact bcells_one c hc
  ·simp at hc;subst hc;rfl
structure Man where
 name:List UInt8
 ver:Ver
 deps:List Dep
 conf:List Dep
 files:List zHA
structure Man.wf (m:Man):Prop where
 name:m.name.length<=9223372036854775807
 ver:m.ver.wf
 deps:∀ d∈m.deps,d.wf
 conf:∀ d∈m.conf,d.wf
 files:∀ f∈m.files,f.wf
def zGU (m:Man)(vd vc vf:Value):List Value:=str m.name::(zEt m.ver++[vd,vc,vf])
theorem zBI {m:Man}{vd vc vf:Value}(h:m.wf):(zGU m vd vc vf).length=8:=by simp[zGU,zDE h.ver]
structure zL6 (P:zAY)(H:zAw)(m:Man)(vd vc vf:Value):Prop where
 d:SlE 6 P H vd (m.deps.map zE7)
 c:SlE 6 P H vc (m.conf.map zE7)
 f:SlE 34 P H vf (m.files.map zEm)
 wf:m.wf
theorem zL6.keep {P S:zAY}{H H':zAw}{m:Man}{vd vc vf:Value}(h:zL6 P H m vd vc vf)(k:Keep S H H')(hs:∀ b,P b->¬ S b):zL6 P H' m vd vc vf :=
 ⟨h.d.keep k hs,h.c.keep k hs,h.f.keep k hs,h.wf⟩
theorem zL6.one {P:zAY}{H:zAw}{m:Man}{vd vc vf:Value}(h:zL6 P H m vd vc vf):∀ c∈zGU m vd vc vf,c.oneCell'=true:=by
 intro c hc
 rcases zAp.1 hc with rfl|hc
 ·rfl
 rcases zAr.1 hc with hc|hc
 ·exact zLv c hc
 simp at hc
 rcases hc with rfl|rfl|rfl
 ·exact h.d.oneC
 ·exact h.c.oneC
 ·exact h.f.oneC
section
variable {h:zAw} {q:Nat} {m:Man} {vd vc vf:Value}
theorem zEc (a:At h q (zGU m vd vc vf)):ld1 h (Ptr q 0)=some (str m.name):=a.ld rfl
theorem zKd (a:At h q (zGU m vd vc vf))(hm:m.wf):ldN 4 h (Ptr q 1)=some (.agg (zEt m.ver).toArray):=by
 obtain⟨T,a⟩:=a
 exact ldN_mid (A:=[str m.name]) (B:=zEt m.ver) (C:=[vd,vc,vf]) a rfl (zDE hm.ver).symm
theorem zHT (a:At h q (zGU m vd vc vf))(hm:m.wf):ld1 h (Ptr q 5)=some vd/\ld1 h (Ptr q 6)=some vc/\ld1 h (Ptr q 7)=some vf:=by
 have h4:=zDE hm.ver
 refine⟨a.ld ?_,a.ld ?_,a.ld ?_⟩<;>simp[zGU,zA6,h4]
theorem zVQ (a:At h q (zGU m vd vc vf))(hm:m.wf):ldN 8 h (Ptr q 0)=some (.agg (zGU m vd vc vf).toArray):=a.ldN (zBI hm)
end
def zN8 (l:List (List UInt8))(i:Nat):Bool:=decide (i=0) || zVJ (l.getD (i-1) []) (l.getD i [])
def zQG (l:List (List UInt8)):Bool:=(List.range l.length).all (zN8 l)
theorem zYk {l:List (List UInt8)}{i:Nat}(hi:i<l.length)(h:zN8 l i=false):zQG l=false:=by
 unfold zQG
 rw[zCf];exact⟨i,by simpa using hi,by simp[h]⟩
theorem zVR {l:List (List UInt8)}{i:Nat}(h:(List.range i).all (zN8 l)=true)(hb:zN8 l i=true):(List.range (i+1)).all (zN8 l)=true:=by
 rw[List.range_succ,zCU,h];simp[hb]
theorem zAa6 {H:zAw}{d:Dep}:zAA prg zEn [.agg (zE7 d).toArray] H λu H'=>u=str d.name/\Keep zAK H H':=by
 apply zMg
 unfold zK9
 simp only[zB7,zBd]
 have a:At (H.push (.cells (zE7 d).toArray zAH (0,0))) H.size (zE7 d):=At.push
 have d0:ld1 (H.push (.cells (zE7 d).toArray zAH (0,0))) (Ptr H.size 0)=some (str d.name):=a.ld rfl
 rw[zBk,zAa,zAu,d0,zAa]
 exact⟨rfl,Keep.push⟩
theorem zAa7 {P:zAY}{H:zAw}{v:Value}{l:List Dep}(hv:SlE 6 P H v (l.map zE7))(hw:∀ d∈l,d.wf)(hl:l.length<=1099511627776) :
  zAA prg zEA [v,.func (.func zEn) #[] #[]] H λu H'=>u = .bool (zQG (l.map (·.name)))/\Keep zAK H H':=by
 apply zHQ
 unfold zGe
 have hlen:=hv.len
 rw[zAf]at hlen
 have hln:(l.map (·.name)).length=l.length:=by simp
 have hcall:∀ (d:Dep) (h:zAw) (k:zAn),(∀ h',Keep zAK h h'->k (str d.name) h')->zDz prg (.func (.func zEn) #[] #[]) [.agg (zE7 d).toArray] h k:=λd h k hk =>
  .inl ⟨zEn,#[],#[],rfl,by kernel_rfl,zAA.mono (R:=λu H'=>u=str d.name/\Keep zAK h H') (zAa6 (d:=d)) λu h' hR=>by obtain⟨rfl,k'⟩:=hR;exact hk h' k'⟩
 refine zOd (λ_ h=>zQG (l.map (·.name))=true/\Keep zAK H h) (λk hk=>?_) ?_
 ·refine zKl (λu h=>∃ i:Nat,1<=i/\u = .int .i64 (i:Nat)/\(List.range (min i l.length)).all (zN8 (l.map (·.name)))=true/\Keep zAK H h) (λu _=>match u with | .int _ t=>l.length-t.toNat|_=>0) ⟨1,zAi _,rfl,?_,Keep.refl⟩ ?_
  ·by_cases h0:l.length=0
   ·rw[h0];rfl
   ·rw[zBD (by omega)];rfl
  rintro _ h ⟨i,hi,rfl,hall,kh⟩ k2 hk2
  have e1:zAB .no .lss (.int .i64 (i:Nat)) (.int .i64 (l.length:Nat))=some (.bool (decide (i<l.length))):=by
   rw[zAG];simp only[zC9];congr 2;rw[decide_eq_decide];omega
  rw[hlen,zAa,e1,zAa,zAl]
  by_cases hlt:i<l.length
  ·rw[if_pos (by simpa using hlt)]
   have hg:l[i]? = some l[i]:=zAj hlt
   have hg':l[i-1]? = some (l[i-1]'(by omega)):=zAj (by omega)
   have hvh:=hv.keep kh λ_ _=>id
   obtain⟨b,o,hix,hpt,_⟩:=hvh.at (i:=i) (x:=zE7 l[i]) (by rw[zAq,hg];rfl)
   obtain⟨b',o',hix',hpt',_⟩:=hvh.at (i:=i-1) (x:=zE7 (l[i-1]'(by omega))) (by rw[zAq,hg'];rfl)
   have hwd:=hw _ (zAE hlt)
   have hwd':=hw _ (zAE (show i-1<l.length by omega))
   have hra:zN8 (l.map (·.name)) i=zVJ (l[i-1]'(by omega)).name l[i].name:=by
    have h0:((l.map (·.name)).getD (i-1) [])=(l[i-1]'(by omega)).name:=by simp[List.getD,hg']
    have h1:((l.map (·.name)).getD i [])=l[i].name:=by simp[List.getD,hg]
    unfold zN8
    rw[h0,h1,decide_eq_false (by omega)];rfl
   generalize l[i]=d at *
   generalize (l[i-1]'(by omega))=d' at *
   have e2:zAB .no .sub (.int .i64 (i:Nat)) (.int .i64 1)=some (.int .i64 ((i-1:Nat):Int)):=by
    rw[zAG];simp only[zC9];rw[zB8 (by omega) (by omega)];congr 2;omega
   rw[e2,zAa,hix' .i64,zAa,hpt'.agg (zEa hwd'),zAa,hix .i64,zAa,hpt.agg (zEa hwd),zAa]
   refine hcall d' h _ λh5 k5=>?_
   refine⟨(hpt.keep k5 id).agg (zEa hwd),?_⟩
   refine hcall d h5 _ λh6 k6=>?_
   have hge:zAB .no .geq (str d'.name) (str d.name)=some (.bool (!zVJ d'.name d.name)):=by rw[zGw];exact zX1
   rw[hge,zAa,zAl]
   have kk:=kh.trans (k5.trans k6)
   cases hb:zVJ d'.name d.name
   ·rw[if_pos (show(!false)=true from rfl)]
    exact⟨by rw[zYk (i:=i) (by rw[hln];exact hlt) (by rw[hra,hb])],kk⟩
   ·rw[if_neg (by decide),zBU (by omega),zAa]
    refine hk2 _ _ ⟨i+1,by omega,rfl,?_,kk⟩ (by show l.length-(i+1)<l.length-i;omega)
    rw[zBD (by omega)]at hall ⊢
    exact zVR hall (by rw[hra,hb])
  ·rw[if_neg (by simpa using hlt)]
   refine hk _ _ ⟨?_,kh⟩
   rw[Nat.min_eq_right (by omega)]at hall
   unfold zQG
   rw[hln];exact hall
 ·rintro _ h ⟨h1,h2⟩
  exact⟨by rw[h1],h2⟩
def zRY (own:List UInt8)(d:Dep):Bool:=zMz d.name && !decide (d.name=own)&&zGn d.want
def zPC (own:List UInt8)(l:List Dep):Bool:=l.all (zRY own)&&decide (l.length<=16)&&zQG (l.map (·.name))
theorem zZg {own:List UInt8}{l:List Dep}{d:Dep}(hd:d∈l)(h:zRY own d=false):zPC own l=false:=by
 unfold zPC
 rw[zCf.2 ⟨d,hd,by simp[h]⟩];rfl
theorem zAeI {P:zAY}{H:zAw}{m:Man}{vd vc vf v:Value}{l:List Dep}(hv:SlE 6 P H v (l.map zE7))(hw:∀ d∈l,d.wf)(hO:zQE H)(hl:l.length<=1099511627776) :
  zAA prg zEH [.agg (zGU m vd vc vf).toArray,v] H λu H'=>u = .bool (zPC m.name l)/\Keep zAK H H':=by
 apply zJ7
 unfold zIb
 have hlen:=hv.len
 rw[zAf]at hlen
 simp only[zB7,zBd]
 generalize hH1:H.push (.cells (zGU m vd vc vf).toArray zAg (0,0))=H1
 have k1:Keep zAK H H1:=by rw[<- hH1];exact Keep.push
 have a1:At H1 H.size (zGU m vd vc vf):=by rw[<- hH1];exact At.push
 have s1:H1.size=H.size+1:=by rw[<- hH1];simp
 refine zOd (λ_ h=>l.all (zRY m.name)=true/\Keep zAK H1 h) (λk hk=>?_) ?_
 ·rw[hlen,zAa]
  refine zKl (λu h=>∃ i:Nat,i<=l.length/\u = .int .i64 (i:Nat)/\(l.take i).all (zRY m.name)=true/\Keep zAK H1 h) (λu _=>match u with | .int _ t=>l.length-t.toNat|_=>0) ⟨0,zAz _,rfl,rfl,Keep.refl⟩ ?_
  rintro _ h ⟨i,hi,rfl,hall,kh⟩ k2 hk2
  have e1:zAB .no .lss (.int .i64 (i:Nat)) (.int .i64 (l.length:Nat))=some (.bool (decide (i<l.length))):=by
   rw[zAG];simp only[zC9];congr 2;rw[decide_eq_decide];omega
  rw[e1,zAa,zAl]
  by_cases hlt:i<l.length
  ·rw[if_pos (by simpa using hlt)]
   have hg:l[i]? = some l[i]:=zAj hlt
   have hvh:=hv.keep (k1.trans kh) λ_ _=>id
   obtain⟨b,o,hix,hpt,_⟩:=hvh.at (i:=i) (x:=zE7 l[i]) (by rw[zAq,hg];rfl)
   have hwd:=hw _ (zAE hlt)
   have hmem:l[i]∈l:=zAE hlt
   have hnext:zRY m.name l[i]=true->(l.take (i+1)).all (zRY m.name)=true:=λhb=>by
    rw[zAJ,hg,zCU,hall];simp[hb]
   generalize l[i]=d at *
   rw[hix .i64,zAa,hpt.agg (zEa hwd),zAa]
   simp only[zAjR,zBd]
   generalize hH6:h.push (.cells (zE7 zQF).toArray zAH (0,0))=h6
   have k6:Keep zAK h h6:=by rw[<- hH6];exact Keep.push
   have a6:At h6 h.size (zE7 zQF):=by rw[<- hH6];exact At.push
   obtain⟨h7,st7,a7,k7⟩:=a6.st (n:=6) (ds:=zE7 d) (zEa zNT) (zEa hwd) zLx
   have g1:=kh.1
   have k17:Keep zAK H1 h7:=(kh.trans k6).fresh k7 λb hb=>by omega
   have d0:ld1 h7 (Ptr h.size 0)=some (str d.name):=a7.ld rfl
   rw[st7,zA0,zBk,zAa,zAu,d0,zAa]
   refine zAM (zX0 hwd.name) ?_
   rintro _ h8 ⟨rfl,k8⟩
   have a8:=a7.keep k8 id
   have k18:=k17.trans k8
   have m8:=zEc (a1.keep k18 id)
   have d8:ld1 h8 (Ptr h.size 0)=some (str d.name):=a8.ld rfl
   have w8:=zUO a8 hwd
   have hO8:=hO.keep (k1.trans k18) λ_ h=>h.elim
   have eqn:zAB .no .eql (str d.name) (str m.name)=some (.bool (decide (d.name=m.name))):=zDx
   have bad:zRY m.name d=false->∀ h',Keep zAK h8 h'->Value.bool false = .bool (zPC m.name l)/\Keep zAK H h':=λhb h' k'=>⟨by rw[zZg hmem hb],k1.trans (k18.trans k')⟩
   cases hn:zMz d.name
   ·simp only[zBk,zAu,zAh,zA5,zAe,zAd,zAL,zAR,zAt,zAl,zAa,if_true,if_false,zAb,zAc,decide_true,decide_false,reduceCtorEq,zBN,zEy,zEz,zEv,zEw,zEx,zBt,zA7]
    exact bad (by simp[zRY,hn]) _ Keep.refl
   cases hq:decide (d.name=m.name)
   ·simp only[zBk,zAu,zAh,d8,m8,eqn,hq,w8,zA5,zAe,zAd,zAL,zAR,zAt,zAl,zAa,if_true,if_false,zAb,zAc,decide_true,decide_false,reduceCtorEq,zBN,zEy,zEz,zEv,zEw,zEx,zBt,zA7]
    refine zAM (zNR hwd.want hO8) ?_
    rintro _ h9 ⟨rfl,k9⟩
    cases hk9:zGn d.want
    ·simp only[zA5,zAe,zAd,zAL,zAR,zAt,zAl,zAa,if_true,if_false,zAb,zAc,decide_true,decide_false,reduceCtorEq,zBN,zEy,zEz,zEv,zEw,zEx,zBt,zA7]
     exact bad (by simp[zRY,hk9]) _ k9
    ·simp only[zA5,zAe,zAd,zAL,zAR,zAt,zAl,zAa,if_true,if_false,zAb,zAc,decide_true,decide_false,reduceCtorEq,zBN,zEy,zEz,zEv,zEw,zEx,zBt,zA7]
     rw[zBU (by omega),zAa]
     exact hk2 _ _ ⟨i+1,by omega,rfl,hnext (by simp[zRY,hn,hk9,of_decide_eq_false hq]),k18.trans k9⟩ (by show l.length-(i+1)<l.length-i;omega)
   ·simp only[zBk,zAu,zAh,d8,m8,eqn,hq,zA5,zAe,zAd,zAL,zAR,zAt,zAl,zAa,if_true,if_false,zAb,zAc,decide_true,decide_false,reduceCtorEq,zBN,zEy,zEz,zEv,zEw,zEx,zBt,zA7]
    exact bad (by simp[zRY,of_decide_eq_true hq]) _ Keep.refl
  ·rw[if_neg (by simpa using hlt)]
   refine hk _ _ ⟨?_,kh⟩
   rwa [zAs (by omega)]at hall
 ·rintro _ h ⟨hall,kh⟩
  have e3:zAB .no .leq (.int .i64 (l.length:Nat)) (.int .i64 16)=some (.bool (decide (l.length<=16))):=by
   rw[zAG];simp only[zC9];congr 2;rw[decide_eq_decide];omega
  have kk:=k1.trans kh
  rw[hlen,zAa,e3,zAa]
  unfold zPC
  rw[hall]
  cases h16:decide (l.length<=16)
  ·simp only[zA5,zAe,zAd,zAL,zAR,zAt,zAl,zAa,if_true,if_false,zAb,zAc,decide_true,decide_false,reduceCtorEq,zBN,zEy,zEz,zEv,zEw,zEx,zBt,zA7,zA9,zAV]
   exact⟨by trivial,kk⟩
  ·simp only[zA5,zAe,zAd,zAL,zAR,zAt,zAl,zAa,if_true,if_false,zAb,zAc,decide_true,decide_false,reduceCtorEq,zBN,zEy,zEz,zEv,zEw,zEx,zBt,zA7,zA9]
   refine zAM (zAa7 (hv.keep kk λ_ _=>id) hw hl) ?_
   rintro _ h2 ⟨rfl,k2⟩
   simp only[zA5,zAe,zAd,zAL,zAR,zAt,zAl,zAa,if_true,if_false,zAb,zAc,decide_true,decide_false,reduceCtorEq,zBN,zEy,zEz,zEv,zEw,zEx,zBt,zA7]
   exact⟨by trivial,kk.trans k2⟩
def zAgh (m:Man):Bool:=zMz m.name&&zFU m.ver&&zPC m.name m.deps&&zPC m.name m.conf
structure zAdv (q:Nat)(Fd Fc Ff:zAY)(m:Man)(h:zAw):Prop where
 ex:∃ vd vc vf,At h q (zGU m vd vc vf)/\BufE 6 Fd h vd (m.deps.map zE7)/\BufE 6 Fc h vc (m.conf.map zE7)/\BufE 34 Ff h vf (m.files.map zEm)
 nq:¬ Fd q/\¬ Fc q/\¬ Ff q
 dis:∀ b,¬ (Fd b/\Fc b)/\¬ (Fd b/\Ff b)/\¬ (Fc b/\Ff b)
 lt:∀ b,Fd b\/Fc b\/Ff b->b<h.size
 wf:m.wf
theorem zAdv.keep {q:Nat}{Fd Fc Ff S:zAY}{m:Man}{h h':zAw}(a:zAdv q Fd Fc Ff m h)(k:Keep S h h')(hs:∀ b,b=q\/Fd b\/Fc b\/Ff b->¬ S b):zAdv q Fd Fc Ff m h':=by
 obtain⟨vd,vc,vf,h1,h2,h3,h4⟩:=a.ex
 exact⟨⟨vd,vc,vf,h1.keep k (hs q (.inl rfl)),h2.keep k λb hb=>hs b (.inr (.inl hb)),h3.keep k λb hb=>hs b (.inr (.inr (.inl hb))),h4.keep k λb hb=>hs b (.inr (.inr (.inr hb)))⟩,a.nq,a.dis,λb hb=>zAW (a.lt b hb) k.1,a.wf⟩
def zAkF (s:List UInt8)(v:Ver):Prop:=(v.wf/\zFU v=true/\zLw v=s)\/((∀ x:Ver,x.p.length=3->zFU x=true->zLw x≠s)/\v=zED)
theorem zAkF.wf {s:List UInt8}{v:Ver}(h:zAkF s v):v.wf:=by
 rcases h with h|⟨_,rfl⟩
 ·exact h.1
 ·exact zGy
def zAeJ (s:List UInt8)(w:zSW):Prop:=(w.wf/\zGn w=true/\zAhZ w=s)\/((∀ x:zSW,x.wf->zGn x=true->zAhZ x≠s)/\w=zUM)
theorem zAeJ.wf {s:List UInt8}{w:zSW}(h:zAeJ s w):w.wf:=by
 rcases h with h|⟨_,rfl⟩
 ·exact h.1
 ·exact zR9
theorem Pt.closed {n0:Nat}{h h':zAw}{b o:Nat}{cs:List Value}(p:Pt h b o cs)(c:zNY n0 h h'):Pt h' b o cs:=by
 obtain⟨x,T,f,hb,h1⟩:=p
 exact⟨x,T,f,c.2.2 _ _ hb (λds e=>by cases e),h1⟩
theorem SlE.closed {n n0:Nat}{P:zAY}{h h':zAw}{v:Value}{xs:List (List Value)}(s:SlE n P h v xs)(c:zNY n0 h h'):SlE n P h' v xs:=by
 obtain⟨⟨a,k,h1,h2,h3⟩,h4,h5⟩:=s
 refine⟨⟨a,k,h1,h2,?_⟩,h4,h5⟩
 rcases h3 with h3|⟨b,o,e,hb,hp⟩
 ·exact .inl h3
 ·exact .inr ⟨b,o,e,hb,Pt.closed hp c⟩
theorem zL6.closed {P:zAY}{n0:Nat}{h h':zAw}{m:Man}{vd vc vf:Value}(v:zL6 P h m vd vc vf)(c:zNY n0 h h'):zL6 P h' m vd vc vf :=
 ⟨SlE.closed v.d c,SlE.closed v.c c,SlE.closed v.f c,v.wf⟩
def zAh5:Man:=⟨[],zED,[],[],[]⟩
def zCp:Value := .slice none 0 0
def zAeK:List UInt8:=[104,101,108,108,111]
def mA1:Man:=⟨zAeK,⟨[1,0,0],[]⟩,[],[],[]⟩
def zAjT:Dep:=⟨[108,105,98,99],⟨[94],⟨[2,1,0],[]⟩⟩⟩
def mA2:Man:=⟨zAeK,⟨[1,0,0],[]⟩,[zAjT],[],[]⟩
def ms:Nat->Man
 | 0=>zAh5
 | 1=>mA1
 | _=>mA2
structure PA (n0 q2 q n5:Nat)(H:zAw)(j:Nat)(h:zAw):Prop where
 r:At h q2 (zGU zAh5 zCp zCp zCp)
 m:∃ Fd Fc,zAdv q Fd Fc (λ_=>False) (ms j) h/\∀ b,Fd b\/Fc b->n5+2<=b
 k:Keep zAK H h
theorem PA.keep {n0 q2 q n5:Nat}{H:zAw}{j:Nat}{h h':zAw}{S:zAY}(p:PA n0 q2 q n5 H j h)(k:Keep S h h')(hs:∀ b,S b->H.size<=b/\b≠q2/\b≠q/\b<n5+2):PA n0 q2 q n5 H j h':=by
 obtain⟨Fd,Fc,h1,h2⟩:=p.m
 refine⟨p.r.keep k λh=>(hs _ h).2.1 rfl,⟨Fd,Fc,h1.keep k λb hb hS=>?_,h2⟩,p.k.fresh k λb hb=>(hs b hb).1⟩
 rcases hb with rfl|hb|hb|hb
 ·exact(hs _ hS).2.2.1 rfl
 ·have:=h2 b (.inl hb);have:=(hs b hS).2.2.2;omega
 ·have:=h2 b (.inr hb);have:=(hs b hS).2.2.2;omega
 ·exact hb
theorem zAh6 {a:Option Addr}{n c:Nat}:zID prg zFa 1 [(0,.slice a n c)]=some #[.slice a n c]:=by kernel_rfl
theorem zAa8 {Pd:zAY}{H:zAw}{v:Value}{m:List UInt8}(hx:Sl Pd H v m)(hT:zTl H)(hPd:∀ b,Pd b->b<H.size)(hl:m.length<=1099511627776) :
  zAA prg zQ5 [v] H λu H'=>u=bv (zAc4 (6::m))/\Keep zAK H H':=by
 apply zRc
 unfold zSM
 obtain⟨va,vc,hve,_⟩:=hx.sl
 simp only[zAaF,zBd,hve,zAh6,zCD]
 rw[<- hve]
 generalize hH2:H.push (.cells (zBG zPT).toArray zCt (0,0))=H2
 have k2:Keep zAK H H2:=by rw[<- hH2];exact Keep.push
 have hs2:H2.size=H.size+1:=by rw[<- hH2];simp
 have hr2:H2[H.size]? = some (.cells (zBG zPT).toArray zCt (0,0)):=by rw[<- hH2];exact zCh
 generalize hH3:H2.push (.cells #[v] zFa (0,0))=H3
 have k3:Keep zAK H2 H3:=by rw[<- hH3];exact Keep.push
 have hs3:H3.size=H2.size+1:=by rw[<- hH3];simp
 have hv3:H3[H2.size]? = some (.cells #[v] zFa (0,0)):=by rw[<- hH3];exact zCh
 have kk:Keep zAK H H3:=k2.trans k3
 have sv:Sl Pd H3 v m:=hx.keep kk λ_ _=>id
 have hvv:SlE 1 (· = H2.size) H3 (.slice (some ⟨H2.size,0,none⟩) 1 1) (zHn ([(v,m)].map (·.1))):=by
  refine⟨⟨_,1,rfl,zAi _,.inr ⟨H2.size,0,rfl,rfl,?_⟩⟩,zR7,zY7 (P:=Pd) (H:=H3) ?_⟩
  ·rw[zO5];exact Pt.of hv3
  ·intro x hx;simp at hx;subst hx;exact sv
 refine zAM (zAaO (Pd:=Pd) hvv ?_ (hT.keep kk λ_ h=>h.elim) (λb hb=>by omega) (λb hb=>?_) ?_ (by simp)) ?_
 ·intro x hx;simp at hx;subst hx;exact sv
 ·have:=hPd b hb;omega
 ·simp[zLa];omega
 rintro _ H4 ⟨rfl,k4⟩
 have hr4:=(k3.trans k4).at hr2 id
 have e6:(bO 6::zLa [(v,m)])=6::m:=by simp[zLa];rfl
 rw[zSD hr4 (n:=32) rfl zMx,zA0,zQm (zBh hr4) zMx,zAa]
 refine⟨by rw[e6],?_⟩
 have:=(kk.trans k4)
 refine⟨by simp;exact this.1,λi hi _=>?_⟩
 rw[zAD,if_neg (by omega),this.2 i hi id]
def zW8:zHA:=⟨[],List.replicate 32 0,0⟩
theorem zYl:zW8.wf:=⟨by simp[zW8],by simp[zW8],by simp[zW8]⟩
theorem zAeL:zBF prg zBr=some (zEm zW8).toArray:=by kernel_rfl
section
variable {h:zAw} {b o:Nat} {f:zHA}
theorem zAgi (a:Pt h b o (zEm f)):ld1 h (Ptr b o)=some (str f.name):=a.cell0 rfl
theorem zAa9 (a:Pt h b o (zEm f))(hf:f.wf):ld1 h (Ptr b (o+33))=some (.int .i64 f.size):=a.cell (i:=33) (by
 unfold zEm
 rw[zCS,zA6 (by simp[hf.sum])]
 simp[hf.sum])
theorem zAeM (a:Pt h b o (zEm f))(hf:f.wf):ldN 32 h (Ptr b (o+1))=some (bv f.sum):=by
 have:Pt h b (o+1) (zBG f.sum):=Pt.mid (A:=[str f.name]) (B:=zBG f.sum) (C:=[.int .i64 f.size]) (o:=o) (by simpa [zEm] using a) (by simp)
 exact this.agg (by simp[hf.sum])
end
structure BSS (P Q:zAY)(H:zAw)(v:Value)(xs:List (Value×List UInt8)):Prop where
 sl:SlE 1 P H v (zHn (xs.map (·.1)))
 el:∀ x∈xs,Sl Q H x.1 x.2
theorem BSS.keep {P Q S:zAY}{H H':zAw}{v:Value}{xs:List (Value×List UInt8)}(h:BSS P Q H v xs)(k:Keep S H H')(h1:∀ b,P b->¬ S b)(h2:∀ b,Q b->¬ S b):BSS P Q H' v xs :=
 ⟨h.sl.keep k h1,λx hx=>(h.el x hx).keep k h2⟩
theorem BSS.len {P Q:zAY}{H:zAw}{v:Value}{xs:List (Value×List UInt8)}(h:BSS P Q H v xs):zDA v=some (.int .i64 xs.length):=by have:=h.sl.len;simpa using this
theorem BSS.at {P Q:zAY}{H:zAw}{v:Value}{xs:List (Value×List UInt8)}(h:BSS P Q H v xs){i:Nat}{x:Value×List UInt8}(hi:xs[i]? = some x):Sl Q H x.1 x.2/\∃ p,(∀ k,ixS 1 v (.int k i)=some p)/\ld1 H p=some x.1:=by
 obtain⟨b,o,hix,hpt,_⟩:=h.sl.at (i:=i) (x:=[x.1]) (zNc (by simp[hi]))
 exact⟨h.el x (zAC hi),Ptr b o,hix,hpt.cell0 rfl⟩
def zVS (f:zHA)(b:List UInt8):Bool:=decide ((b.length:Int)=f.size)&&decide (zAc4 (6::b)=f.sum)
def zFM:List zHA->List (List UInt8)->Bool
 | f::fs,b::bs=>zVS f b&&zFM fs bs
 | [],[]=>true
 | _,_=>false
theorem zVT:∀ {fs:List zHA} {bs:List (List UInt8)} {i:Nat} {f:zHA} {b:List UInt8},fs[i]? = some f->bs[i]? = some b->zFM (fs.take (i+1)) (bs.take (i+1))=(zFM (fs.take i) (bs.take i)&&zVS f b)
 | [],_,i,f,b,h,_=>by simp at h
 | _::_,[],i,f,b,_,h=>by simp at h
 | g::fs,c::bs,0,f,b,h1,h2=>by
  simp at h1 h2;subst h1 h2
  simp[zFM]
 | g::fs,c::bs,i+1,f,b,h1,h2=>by
  have ih:=zVT (fs:=fs) (bs:=bs) (i:=i) (f:=f) (b:=b) (by simpa using h1) (by simpa using h2)
  rw[zB0,zB0,zFM,ih,zB0,zB0,zFM,Bool.and_assoc]
theorem zYm:∀ {fs:List zHA} {bs:List (List UInt8)} {i:Nat} {f:zHA} {b:List UInt8},fs[i]? = some f->bs[i]? = some b->zVS f b=false->zFM fs bs=false
 | [],_,i,f,b,h,_,_=>by simp at h
 | _::_,[],i,f,b,_,h,_=>by simp at h
 | g::fs,c::bs,0,f,b,h1,h2,h3=>by
  simp at h1 h2;subst h1 h2
  simp[zFM,h3]
 | g::fs,c::bs,i+1,f,b,h1,h2,h3=>by
  have ih:=zYm (fs:=fs) (bs:=bs) (i:=i) (f:=f) (b:=b) (by simpa using h1) (by simpa using h2) h3
  rw[zFM,ih,zBP]
theorem zYn:∀ {fs:List zHA} {bs:List (List UInt8)},bs.length≠fs.length->zFM fs bs=false
 | [],[],h=>absurd rfl h
 | [],_::_,_=>rfl
 | _::_,[],_=>rfl
 | f::fs,b::bs,h=>by
  rw[zFM,zYn (fs:=fs) (bs:=bs) (λe=>h (by simp[e])),zBP]
theorem zW9 {n:Nat}{s:Int}:zAB .no .neq (.int .i64 (n:Nat)) (.int .i64 s)=some (.bool (!decide ((n:Int)=s))):=by
 rw[zAG];simp only[zC9];congr 2
theorem zAgj {P Q R:zAY}{H:zAw}{m:Man}{vd vc vf v:Value}{xs:List (Value×List UInt8)}(hv:zL6 P H m vd vc vf)(hx:BSS Q R H v xs)(hR:∀ b,R b->b<H.size)(hl:xs.length=m.files.length->xs.length<=1048576)(hb:∀ (i:Nat) (x:Value×List UInt8) (f:zHA),xs[i]? = some x->m.files[i]? = some f->(x.2.length:Int)=f.size->x.2.length<=1048576)(hT:zTl H) :
  zAA prg zFX [.agg (zGU m vd vc vf).toArray,v] H λu H'=>u = .bool (zFM m.files (xs.map (·.2)))/\Keep zAK H H':=by
 apply zJ6
 unfold zIa
 simp only[zB7,zBd]
 generalize hH1:H.push (.cells (zGU m vd vc vf).toArray zAg (0,0))=H1
 have k1:Keep zAK H H1:=by rw[<- hH1];exact Keep.push
 have a1:At H1 H.size (zGU m vd vc vf):=by rw[<- hH1];exact At.push
 have w:=hv.wf
 have g7:=(zHT a1 w).2.2
 have lf:zDA vf=some (.int .i64 m.files.length):=by have:=hv.f.len;rwa [zAf]at this
 have en:zAB .no .neq (.int .i64 (xs.length:Nat)) (.int .i64 (m.files.length:Nat))=some (.bool (!decide (xs.length=m.files.length))):=by
  rw[zAG];simp only[zC9];congr 2;rw[zA1];simp<;>omega
 rw[hx.len,zAa,zBk,zAa,zAh,g7,zAa,lf,zAa,en,zAa,zAl]
 by_cases hne:xs.length=m.files.length
 ·rw[if_neg (by simp[hne])]
  have hl:=hl hne
  refine zOd (λ_ h=>zFM m.files (xs.map (·.2))=true/\Keep zAK H h) (λk hk=>?_) ?_
  ·rw[zAa,g7,zAa,lf,zAa]
   refine zKl (λu h=>∃ i:Nat,i<=m.files.length/\u = .int .i64 (i:Nat)/\zFM (m.files.take i) ((xs.map (·.2)).take i)=true/\Keep zAK H1 h) (λu _=>match u with | .int _ t=>m.files.length-t.toNat|_=>0) ⟨0,zAz _,rfl,rfl,Keep.refl⟩ ?_
   rintro _ h ⟨i,hi,rfl,hall,kh⟩ k2 hk2
   have e1:zAB .no .lss (.int .i64 (i:Nat)) (.int .i64 (m.files.length:Nat))=some (.bool (decide (i<m.files.length))):=by
    rw[zAG];simp only[zC9];congr 2;rw[decide_eq_decide];omega
   rw[e1,zAa,zAl]
   by_cases hlt:i<m.files.length
   ·rw[if_pos (by simpa using hlt)]
    have k0:=k1.trans kh
    have hg:m.files[i]? = some m.files[i]:=zAj hlt
    have hgx:xs[i]? = some (xs[i]'(by omega)):=zAj (by omega)
    obtain⟨b,o,hix,hpt,_⟩:=(hv.f.keep k0 λ_ _=>id).at (i:=i) (x:=zEm m.files[i]) (by rw[zAq,hg];rfl)
    have hwf:=w.files _ (zAE hlt)
    have hbl:=hb i _ _ hgx hg
    have hgb:(xs.map (·.2))[i]? = some (xs[i]'(by omega)).2:=by rw[zAq,hgx];rfl
    have hft:=zVT hg hgb
    rw[hall,zA9]at hft
    have hfb:=zYm hg hgb
    generalize m.files[i]=f at *
    generalize (xs[i]'(by omega))=x at *
    rw[hix .i64,zAa,hpt.agg (zEb hwf),zAa]
    simp only[zAeL,zBd]
    generalize hH6:h.push (.cells (zEm zW8).toArray zBr (0,0))=h6
    have k6:Keep zAK h h6:=by rw[<- hH6];exact Keep.push
    have a6:At h6 h.size (zEm zW8):=by rw[<- hH6];exact At.push
    obtain⟨h7,st7,a7,k7⟩:=a6.st (n:=34) (ds:=zEm f) (zEb zYl) (zEb hwf) zNw
    have g0:=k0.1
    have k07:Keep zAK H h7:=(k0.trans k6).fresh k7 λb hb=>by omega
    have k17:Keep zAK H1 h7:=(kh.trans k6).fresh k7 λb hb=>by have:=kh.1;omega
    have hx7:=hx.keep k07 (λ_ _=>id) λ_ _=>id
    obtain⟨hs,p,hp,hld⟩:=hx7.at hgx
    have d33:=zAa9 a7.pt hwf
    have d1:=zAeM a7.pt hwf
    rw[zAh]at d33 d1
    rw[st7,zA0,hp .i64,zAa,hld,zAa,hs.len,zAa,zBk,zAa,zAh,d33,zAa,zW9,zAa]
    have bad:zVS f x.2=false->∀ g,Keep zAK H g->Value.bool false = .bool (zFM m.files (xs.map (·.2)))/\Keep zAK H g:=λhf g kg=>⟨by rw[hfb hf],kg⟩
    cases hsz:decide ((x.2.length:Int)=f.size)
    ·simp only[zA5,zAe,zAd,zAL,zAR,zAt,zAl,zAa,if_true,if_false,zAb,zAc,decide_true,decide_false,reduceCtorEq,zBN,zEy,zEz,zEv,zEw,zEx,zBt,zA7]
     exact bad (by simp[zVS,hsz]) _ k07
    ·have hbl:=hbl (of_decide_eq_true hsz)
     simp only[hp .i64,hld,zBk,zAh,d1,zA5,zAe,zAd,zAL,zAR,zAt,zAl,zAa,if_true,if_false,zAb,zAc,decide_true,decide_false,reduceCtorEq,zBN,zEy,zEz,zEv,zEw,zEx,zBt,zA7]
     refine zAM (zAa8 hs (hT.keep k07 λ_ h=>h.elim) (λb hb=>zAW (hR b hb) k07.1) (by omega)) ?_
     rintro _ h9 ⟨rfl,k9⟩
     have d1':=zAeM (a7.keep k9 id).pt hwf
     rw[zAh]at d1'
     refine⟨d1',?_⟩
     rw[zA7,zAf2 zMx hwf.sum,zAa]
     cases hsm:decide (zAc4 (6::x.2)=f.sum)
     ·simp only[zA5,zAe,zAd,zAL,zAR,zAt,zAl,zAa,if_true,if_false,zAb,zAc,decide_true,decide_false,reduceCtorEq,zBN,zEy,zEz,zEv,zEw,zEx,zBt,zA7]
      exact bad (by simp[zVS,hsm]) _ (k07.trans k9)
     ·simp only[zA5,zAe,zAd,zAL,zAR,zAt,zAl,zAa,if_true,if_false,zAb,zAc,decide_true,decide_false,reduceCtorEq,zBN,zEy,zEz,zEv,zEw,zEx,zBt,zA7]
      rw[zBU (by omega),zAa]
      exact hk2 _ _ ⟨i+1,by omega,rfl,by rw[hft];simp[zVS,of_decide_eq_true hsz,of_decide_eq_true hsm],k17.trans k9⟩ (by show m.files.length-(i+1)<m.files.length-i;omega)
   ·rw[if_neg (by simpa using hlt)]
    refine hk _ _ ⟨?_,k1.trans kh⟩
    rwa [zAs (by omega),zAs (by simp;omega)]at hall
  ·rintro _ h ⟨h1,h2⟩
   exact⟨by rw[h1],h2⟩
 ·rw[if_pos (by simp[hne])]
  exact⟨by rw[zYn (by simpa using hne)],k1⟩
theorem zAh7 {n m:Nat}:zAB .no .gtr (.int .i64 (n:Nat)) (.int .i64 (m:Nat))=some (.bool (decide (n > m))):=by
 rw[zAG];simp only[zC9];congr 2;rw[decide_eq_decide];omega
theorem zAgk {h:zAw}{q:Nat}{m:Man}{vd vc vf:Value}(a:At h q (zGU m vd vc vf))(hm:m.wf):ld1 h (Ptr q 4)=some (str m.ver.pre):=a.ld (by
 obtain⟨x,y,z,e⟩:=Ver.cases3 hm.ver
 obtain⟨n,⟨p,pre⟩,d,c,f⟩:=m
 simp only at e
 subst e
 rfl)
end Go.Proofs.YticdfkoncnnmmaaGreatDoor
namespace Go.Proofs.YticdfkoncnnmmaaGreatDoor.Came
open Go.X
theorem zAdw {q:List (List Value)}(h:∀ x∈q,∃ y:Dep,y.wf/\x=zE7 y):∃ ys:List Dep,q=ys.map zE7/\∀ y∈ys,y.wf:=by
 induction q with
 | nil=>exact⟨[],rfl,λy h=>by cases h⟩
 | cons x q ih =>
  obtain⟨ys,hy,hw⟩:=ih λx hx=>h x (by simp[hx])
  obtain⟨y,yw,rfl⟩:=h x (by simp)
  exact⟨y::ys,by rw[hy];rfl,λz hz=>by
   rcases zAp.1 hz with rfl|hz
   ·exact yw
   ·exact hw z hz⟩
theorem zAba {q:List (List Value)}(h:∀ x∈q,∃ y:zHA,y.wf/\x=zEm y):∃ ys:List zHA,q=ys.map zEm/\∀ y∈ys,y.wf:=by
 induction q with
 | nil=>exact⟨[],rfl,λy h=>by cases h⟩
 | cons x q ih =>
  obtain⟨ys,hy,hw⟩:=ih λx hx=>h x (by simp[hx])
  obtain⟨y,yw,rfl⟩:=h x (by simp)
  exact⟨y::ys,by rw[hy];rfl,λz hz=>by
   rcases zAp.1 hz with rfl|hz
   ·exact yw
   ·exact hw z hz⟩
theorem zAjU:zZU zAH [(0,zBW),(1,zBO)]=true:=by kernel_rfl
theorem zAeN:prg.cellsOf zAH=6:=by kernel_rfl
theorem zAh8 {w:World}{d:Nat}{cs:List Value}(h:Shp prg w d zAH cs):∃ x:Dep,x.wf/\cs=zE7 x:=by
 obtain⟨d',hl,hfl⟩:=zMC zAjU h
 rw[zAeN]at hl
 have h0:=hfl 0 0 zBW rfl
 have h1:=hfl 1 1 zBO rfl
 rw[zNv]at h0;rw[zW7]at h1
 obtain⟨s,hs,hsl⟩:=zRa zNS h0
 obtain⟨n,hsn,hnl⟩:=str_of hsl
 obtain⟨v,hv,hvc⟩:=zAa5 h1
 refine⟨⟨n,v⟩,⟨hv,hnl⟩,?_⟩
 have e1:cs=(cs.drop 0).take 1++(cs.drop 1).take 5:=by
  rw[zAs (l:=cs.drop 1) (by simp;omega),zCb]
  exact(zBn 1 cs).symm
 rw[e1,hs,hvc,hsn];rfl
theorem zAh9:zZU zBr [(0,zBW),(1,zCt),(33,zHb)]=true:=by kernel_rfl
theorem zAbb:prg.cellsOf zBr=34:=by kernel_rfl
theorem zAeO:prg.cellsOf zHb=1:=by kernel_rfl
theorem zAgl {w:World}{d:Nat}{cs:List Value}(h:Shp prg w d zBr cs):∃ x:zHA,x.wf/\cs=zEm x:=by
 obtain⟨d',hl,hfl⟩:=zMC zAh9 h
 rw[zAbb]at hl
 have h0:=hfl 0 0 zBW rfl
 have h1:=hfl 1 1 zCt rfl
 have h2:=hfl 2 33 zHb rfl
 rw[zNv]at h0;rw[zAa3]at h1;rw[zAeO]at h2
 obtain⟨s,hs,hsl⟩:=zRa zNS h0
 obtain⟨n,hsn,hnl⟩:=str_of hsl
 obtain⟨e,he,hu,hc⟩:=zAh3
 obtain⟨l,hll,hlc,hlw⟩:=zXV he hu hc zAa3 h1
 obtain⟨r,hr,hrc⟩:=zY3 hlw
 obtain⟨k,hk,hkw⟩:=shp_int zAgd h2
 refine⟨⟨n,r,k⟩,⟨hnl,by show r.length=32;omega,zAgg hkw⟩,?_⟩
 have e1:cs=(cs.drop 0).take 1++((cs.drop 1).take 32++(cs.drop 33).take 1):=by
  rw[zAs (l:=cs.drop 33) (by simp;omega),zCb]
  have h33:cs.drop 33=(cs.drop 1).drop 32:=by rw[zCz]
  rw[h33,zBn]
  exact(zBn 1 cs).symm
 rw[e1,hs,hlc,hrc,hk,hsn];rfl
theorem zAia:prg.underlying zC8=some (.slice zAH):=by kernel_rfl
theorem zAgm:prg.underlying zF8=some (.slice zBr):=by kernel_rfl
theorem zAbc {w:World}{d:Nat}{cs:List Value}(hl:cs.length=1)(h:Shp prg w d zC8 cs):∃ v,cs=[v]/\∃ xs:List Dep,SlE 6 (· < w.heap.size) w.heap v (xs.map zE7)/\∀ x∈xs,x.wf:=by
 match cs,hl with
 | [v],_ =>
  refine⟨v,rfl,?_⟩
  cases d with
  | zero=>exact h.elim
  | succ d =>
   simp only[Shp,zAia]at h
   rcases h with h|⟨a,len,cap,hv,hle,hcap,hel⟩
   ·obtain rfl:v = .slice none 0 0:=by simpa using h
    exact⟨[],SlE.nil,λx h=>by cases h⟩
   ·obtain rfl:v = .slice (some a) len cap:=by simpa using hv
    rw[zAeN]at hel
    obtain⟨q,hq,hs,hqi⟩:=zKo (n:=6) (q:=λcs=>∃ y:Dep,y.wf/\cs=zE7 y) (by omega) hle (λcs ⟨y,_,e⟩ c hc=>by subst e;exact zLx c hc) λi hi=>by
     obtain⟨cs',h1,h2⟩:=hel i hi
     exact⟨cs',h1,zAh8 h2⟩
    obtain⟨ys,rfl,hw⟩:=zAdw hqi
    exact⟨ys,hs,hw⟩
theorem zAdx {w:World}{d:Nat}{cs:List Value}(hl:cs.length=1)(h:Shp prg w d zF8 cs):∃ v,cs=[v]/\∃ xs:List zHA,SlE 34 (· < w.heap.size) w.heap v (xs.map zEm)/\∀ x∈xs,x.wf:=by
 match cs,hl with
 | [v],_ =>
  refine⟨v,rfl,?_⟩
  cases d with
  | zero=>exact h.elim
  | succ d =>
   simp only[Shp,zAgm]at h
   rcases h with h|⟨a,len,cap,hv,hle,hcap,hel⟩
   ·obtain rfl:v = .slice none 0 0:=by simpa using h
    exact⟨[],SlE.nil,λx h=>by cases h⟩
   ·obtain rfl:v = .slice (some a) len cap:=by simpa using hv
    rw[zAbb]at hel
    obtain⟨q,hq,hs,hqi⟩:=zKo (n:=34) (q:=λcs=>∃ y:zHA,y.wf/\cs=zEm y) (by omega) hle (λcs ⟨y,_,e⟩ c hc=>by subst e;exact zNw c hc) λi hi=>by
     obtain⟨cs',h1,h2⟩:=hel i hi
     exact⟨cs',h1,zAgl h2⟩
    obtain⟨ys,rfl,hw⟩:=zAba hqi
    exact⟨ys,hs,hw⟩
theorem zAjV:zZU zAg [(0,zBW),(1,zAQ),(5,zC8),(6,zC8),(7,zF8)]=true:=by kernel_rfl
theorem zAbd:prg.cellsOf zAg=8:=by kernel_rfl
theorem zAgn:prg.cellsOf zC8=1:=by kernel_rfl
theorem zAdy:prg.cellsOf zF8=1:=by kernel_rfl
theorem zAeP {w:World}{d:Nat}{cs:List Value}(h:Shp prg w d zAg cs):∃ (m:Man) (vd vc vf:Value),zL6 (· < w.heap.size) w.heap m vd vc vf/\cs=zGU m vd vc vf:=by
 obtain⟨d',hl,hfl⟩:=zMC zAjV h
 rw[zAbd]at hl
 have h0:=hfl 0 0 zBW rfl
 have h1:=hfl 1 1 zAQ rfl
 have h2:=hfl 2 5 zC8 rfl
 have h3:=hfl 3 6 zC8 rfl
 have h4:=hfl 4 7 zF8 rfl
 rw[zNv]at h0;rw[zAa2]at h1;rw[zAgn]at h2 h3;rw[zAdy]at h4
 obtain⟨s,hs,hsl⟩:=zRa zNS h0
 obtain⟨n,hsn,hnl⟩:=str_of hsl
 obtain⟨v,hv,hvc⟩:=zAeH h1
 obtain⟨vd,hvd,ds,hds,hdw⟩:=zAbc (by simp;omega) h2
 obtain⟨vc,hvc',cc,hcs,hcw⟩:=zAbc (by simp;omega) h3
 obtain⟨vf,hvf,fs,hfs,hfw⟩:=zAdx (by simp;omega) h4
 refine⟨⟨n,v,ds,cc,fs⟩,vd,vc,vf,⟨hds,hcs,hfs,⟨hnl,hv,hdw,hcw,hfw⟩⟩,?_⟩
 have e1:cs=(cs.drop 0).take 1++((cs.drop 1).take 4++((cs.drop 5).take 1++((cs.drop 6).take 1++(cs.drop 7).take 1))):=by
  match cs,hl with
  | [a,b,c,d,e,f,g,i],_=>rfl
 rw[e1,hs,hvc,hvd,hvc',hvf,hsn];rfl
theorem zAib:prg.underlying zFa=some (.slice zCi):=by kernel_rfl
theorem zAjW:prg.underlying zCi=some (.int .u8):=by kernel_rfl
theorem zAic:prg.cellsOf zCi=1:=by kernel_rfl
theorem zAbe {q:List (List Value)}(h:∀ x∈q,∃ y:UInt8,x=[.int .u8 y.toNat]):∃ l:List UInt8,q=l.map λy=>[Value.int .u8 y.toNat]:=by
 induction q with
 | nil=>exact⟨[],rfl⟩
 | cons x q ih =>
  obtain⟨l,hl⟩:=ih λx hx=>h x (by simp[hx])
  obtain⟨y,rfl⟩:=h x (by simp)
  exact⟨y::l,by rw[hl];rfl⟩
theorem zVU:∀ l:List UInt8,(l.map λy=>[Value.int .u8 y.toNat]).flatten=zBG l
 | []=>rfl
 | x::l=>by rw[zBa,zBv,zVU l];rfl
theorem zAjX {w:World}{d:Nat}{cs:List Value}(hl:cs.length=1)(h:Shp prg w d zFa cs):∃ v,cs=[v]/\∃ l:List UInt8,l.length<=9223372036854775807/\Sl (· < w.heap.size) w.heap v l:=by
 match cs,hl with
 | [v],_ =>
  refine⟨v,rfl,?_⟩
  cases d with
  | zero=>exact h.elim
  | succ d =>
   simp only[Shp,zAib]at h
   rcases h with h|⟨a,len,cap,hv,hle,hcap,hel⟩
   ·obtain rfl:v = .slice none 0 0:=by simpa using h
    exact⟨[],by simp,Sl.nil⟩
   ·obtain rfl:v = .slice (some a) len cap:=by simpa using hv
    rw[zAic]at hel
    have h1c:∀ cs:List Value,(∃ y:UInt8,cs=[.int .u8 y.toNat])->∀ c∈cs,c.oneCell'=true:=by
     rintro _ ⟨y,rfl⟩ c hc
     obtain rfl:c=_:=by simpa using hc
     rfl
    obtain⟨q,hq,hs,hqi⟩:=zKo (n:=1) (q:=λcs=>∃ y:UInt8,cs=[.int .u8 y.toNat]) (by omega) hle h1c λi hi=>by
     obtain⟨cs',h1,h2⟩:=hel i hi
     obtain⟨n,hn,hw⟩:=Go.X.shp_int zAjW h2
     refine⟨cs',h1,UInt8.ofNat n.toNat,?_⟩
     rw[hn]
     have:0<=n/\n<=255:=by
      simp only[Lit.wf,IntKind.min,IntKind.max,IntKind.signed,IntKind.bits]at hw
      simp at hw
      omega
     have e:(((UInt8.ofNat n.toNat).toNat:Nat):Int)=n:=by rw[UInt8.toNat_ofNat'];omega
     rw[e]
    obtain⟨l,rfl⟩:=zAbe hqi
    rw[zAf]at hq
    have hm:maxLen=9223372036854775807:=rfl
    obtain⟨⟨a',c',he,hc,hx⟩,_,_⟩:=hs
    rw[zAf]at he
    cases he
    rcases hx with hx|⟨b,o,e,hb',⟨cs,T,f,hb,h1,h2⟩⟩
    ·have:l=[]:=by simpa using hx
     subst this
     exact⟨[],by simp,zRE,⟨some a,cap,rfl,zAz _,λ_ _=>rfl⟩,λb hb=>absurd rfl (zH2 hb).2⟩
    ·cases e
     have hfl:=zVU l
     rw[hfl]at h1 h2
     have hbl:(zBG l).length=l.length:=by simp[zBG]
     exact⟨l,by omega,Bs.mk hb rfl (by omega) (by rw[<- hbl];exact h2),⟨_,cap,rfl,by omega,λ_ _=>rfl⟩,λb2 hb2=>by obtain⟨rfl,_⟩:=zH2 hb2;exact hb'⟩
theorem zAid:prg.underlying zLJ=some (.slice zFa):=by kernel_rfl
theorem zAgo:prg.cellsOf zFa=1:=by kernel_rfl
theorem zAie {w:World}{q:List (List Value)}(h:∀ x∈q,∃ v,x=[v]/\∃ l:List UInt8,l.length<=9223372036854775807/\Sl (· < w.heap.size) w.heap v l):∃ xs:List (Value×List UInt8),q=zHn (xs.map (·.1))/\∀ x∈xs,Sl (· < w.heap.size) w.heap x.1 x.2:=by
 induction q with
 | nil=>exact⟨[],rfl,λx h=>by cases h⟩
 | cons x q ih =>
  obtain⟨xs,hx,hw⟩:=ih λx hx=>h x (by simp[hx])
  obtain⟨v,rfl,l,_,hs⟩:=h x (by simp)
  exact⟨(v,l)::xs,by rw[hx];rfl,λz hz=>by
   rcases zAp.1 hz with rfl|hz
   ·exact hs
   ·exact hw z hz⟩
theorem zAif {w:World}{d:Nat}{v:Value}(h:Shp prg w d zLJ [v]):∃ xs:List (Value×List UInt8),xs.length<=9223372036854775807/\BSS (· < w.heap.size) (· < w.heap.size) w.heap v xs:=by
 cases d with
 | zero=>exact h.elim
 | succ d =>
  simp only[Shp,zAid]at h
  rcases h with h|⟨a,len,cap,hv,hle,hcap,hel⟩
  ·obtain rfl:v = .slice none 0 0:=by simpa using h
   exact⟨[],by simp,SlE.nil,λx h=>by cases h⟩
  ·obtain rfl:v = .slice (some a) len cap:=by simpa using hv
   rw[zAgo]at hel
   obtain⟨q,hq,hs,hqi⟩:=zKo (n:=1) (q:=λcs=>cs.length=1/\∃ v,cs=[v]/\∃ l:List UInt8,l.length<=9223372036854775807/\Sl (· < w.heap.size) w.heap v l) (by omega) hle (λcs ⟨_,v,e,l,_,hs⟩ c hc=>by subst e;simp at hc;subst hc;exact hs.one) λi hi=>by
    obtain⟨cs',h1,h2⟩:=hel i hi
    have hl1:cs'.length=1:=(World.cells?_some h1).2.1
    exact⟨cs',h1,hl1,zAjX hl1 h2⟩
   obtain⟨xs,rfl,hw⟩:=zAie λx hx=>(hqi x hx).2
   have hm:maxLen=9223372036854775807:=rfl
   refine⟨xs,?_,hs,hw⟩
   rw[zSH,zAf]at hq
   omega
theorem zAdz {W:World}(h:laidMetH Tryz.prog Rows.planMakesRow.laid W)(ho:W.ShapedOpen Tryz.prog):zZT W.heap/\zTl W.heap:=by
 refine⟨?_,(tables h ho).1⟩
 have h:laidMet Tryz.prog Rows.planMakesRow.laid W:=h
 obtain⟨ps,hv,_⟩:=h
 obtain⟨t,ms,h1,h2,hu⟩:=zAjN
 refine⟨⟨?_,?_⟩,⟨?_,zAje ho⟩,?_⟩
 ·obtain⟨cs,T,f,fuel,p,hb,hd⟩:=zYi (dd:=Rows.laid_strconv_ErrSyntax) zW6 h1 hv (by repeat (first|exact List.Mem.head _|refine List.Mem.tail _ ?_))
  obtain⟨T',x,hcs⟩:=zYj hu hd
  exact⟨T',x,T,f,by rw[hb];congr 2;apply Array.ext';rw[hcs]⟩
 ·obtain⟨cs,T,f,fuel,p,hb,hd⟩:=zYi (dd:=Rows.laid_strconv_ErrRange) zZe h2 hv (by repeat (first|exact List.Mem.head _|refine List.Mem.tail _ ?_))
  obtain⟨T',x,hcs⟩:=zYj hu hd
  exact⟨T',x,T,f,by rw[hb];congr 2;apply Array.ext';rw[hcs]⟩
 ·exact zVG (t:=zRD) (e:=zXR) (n:=20) zAa4 (by kernel_rfl) (by kernel_rfl) (by kernel_rfl) (by kernel_rfl) (by kernel_rfl) hv (by repeat (first|exact List.Mem.head _|refine List.Mem.tail _ ?_))
 ·obtain⟨t,ht,hu,hc⟩:=zAjP
  obtain⟨cs,T,f,fuel,p,hb,hd⟩:=zYi (dd:=zAjM zYg) zAjO ht hv (by repeat (first|exact List.Mem.head _|refine List.Mem.tail _ ?_))
  have:=zUN hu zNS zNv hc hd
  exact⟨T,f,by rw[hb];congr 2;apply Array.ext';rw[this]⟩
def zZh (h:Array Obj):Array Obj:=lay (lay (zZf h) zLH (flat Rows.laid_syngraph_sha_begin)) zIr (flat Rows.laid_syngraph_sha_table)
noncomputable def zP0 (os:Os):World :=
 { World.holding Tryz.prog os ⟨#[],#[],[]⟩ with heap:=zZh (World.holding Tryz.prog os ⟨#[],#[],[]⟩).heap }
end Go.Proofs.YticdfkoncnnmmaaGreatDoor.Came
