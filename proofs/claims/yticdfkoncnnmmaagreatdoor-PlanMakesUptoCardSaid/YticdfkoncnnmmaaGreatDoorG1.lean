import Derived.Test.YticdfkoncnnmmaaGreatDoorGO
import Derived.Test.YticdfkoncnnmmaaGreatDoorGU
import Derived.Test.YticdfkoncnnmmaaGreatDoorGI
import Derived.Test.YticdfkoncnnmmaaGreatDoorGV
set_option linter.unusedSimpArgs false
set_option linter.unusedVariables false
set_option maxRecDepth 100000
namespace Go.Proofs.YticdfkoncnnmmaaGreatDoor
open Go.X Go.X.Diff
theorem zAfq:zBE prg zBJ=some [str []].toArray:=by kernel_rfl
structure Dep where
 name:List UInt8
 want:zQ5
structure Dep.wf (d:Dep):Prop where
 want:d.want.wf
 name:d.name.length<=9223372036854775807
def zED (d:Dep):List Value:=str d.name::zEC d.want
def zP9:Dep:=⟨[],zUU⟩
theorem zNM:zP9.wf:=⟨zQy,by simp[zP9]⟩
theorem zDx {d:Dep}(h:d.wf):(zED d).length=6:=by simp[zED,zEZ h.want]
theorem zIh {d:Dep}:∀ c∈zED d,c.oneCell'=true:=by
 intro c hc
 rcases zAq.1 hc with rfl|hc
 ·rfl
 ·exact zP8 c hc
theorem zAj8:zBE prg zAE=some (zED zP9).toArray:=by kernel_rfl
theorem zAlP:zMQ prg zAE=some ([(0,1),(1,5)],(zED zP9).toArray):=by kernel_rfl
theorem zAad {h:zAw}{q:Nat}{d:Dep}(a:At h q (zED d))(hd:d.wf):ldN 5 h (Ptr q 1)=some (.agg (zEC d.want).toArray):=by
 obtain⟨T,a⟩:=a
 exact ldN_mid (A:=[str d.name]) (B:=zEC d.want) (C:=[]) (by rw[zAP];exact a) rfl (zEZ hd.want).symm
structure zHu where
 name:List UInt8
 sum:List UInt8
 size:Int
def zEf (f:zHu):List Value:=str f.name::(zBD f.sum++[.int .i64 f.size])
structure zHu.wf (f:zHu):Prop where
 name:f.name.length<=9223372036854775807
 sum:f.sum.length=32
 size : -9223372036854775808<=f.size/\f.size<=9223372036854775807
theorem zDP {f:zHu}(h:f.wf):(zEf f).length=34:=by simp[zEf,h.sum]
theorem zNc {f:zHu}:∀ c∈zEf f,c.oneCell'=true:=by
 intro c hc
 rcases zAq.1 hc with rfl|hc
 ·rfl
 ·rcases zAs.1 hc with hc|hc
  ·exact bcells_one c hc
  ·simp at hc;subst hc;rfl
structure Man where
 name:List UInt8
 ver:Ver
 deps:List Dep
 conf:List Dep
 files:List zHu
structure Man.wf (m:Man):Prop where
 name:m.name.length<=9223372036854775807
 ver:m.ver.wf
 deps:∀ d∈m.deps,d.wf
 conf:∀ d∈m.conf,d.wf
 files:∀ f∈m.files,f.wf
def zGM (m:Man)(vd vc vf:Value):List Value:=str m.name::(zEP m.ver++[vd,vc,vf])
theorem zBH {m:Man}{vd vc vf:Value}(h:m.wf):(zGM m vd vc vf).length=8:=by simp[zGM,zDU h.ver]
structure zMx (P:zA3)(H:zAw)(m:Man)(vd vc vf:Value):Prop where
 d:SlE 6 P H vd (m.deps.map zED)
 c:SlE 6 P H vc (m.conf.map zED)
 f:SlE 34 P H vf (m.files.map zEf)
 wf:m.wf
theorem zMx.keep {P S:zA3}{H H':zAw}{m:Man}{vd vc vf:Value}(h:zMx P H m vd vc vf)(k:Keep S H H')(hs:∀ b,P b->¬ S b):zMx P H' m vd vc vf :=
 ⟨h.d.keep k hs,h.c.keep k hs,h.f.keep k hs,h.wf⟩
theorem zMx.one {P:zA3}{H:zAw}{m:Man}{vd vc vf:Value}(h:zMx P H m vd vc vf):∀ c∈zGM m vd vc vf,c.oneCell'=true:=by
 intro c hc
 rcases zAq.1 hc with rfl|hc
 ·rfl
 rcases zAs.1 hc with hc|hc
 ·exact zMw c hc
 simp at hc
 rcases hc with rfl|rfl|rfl
 ·exact h.d.oneC
 ·exact h.c.oneC
 ·exact h.f.oneC
section
variable {h:zAw} {q:Nat} {m:Man} {vd vc vf:Value}
theorem zDy (a:At h q (zGM m vd vc vf)):ld1 h (Ptr q 0)=some (str m.name):=a.ld rfl
theorem zJl (a:At h q (zGM m vd vc vf))(hm:m.wf):ldN 4 h (Ptr q 1)=some (.agg (zEP m.ver).toArray):=by
 obtain⟨T,a⟩:=a
 exact ldN_mid (A:=[str m.name]) (B:=zEP m.ver) (C:=[vd,vc,vf]) a rfl (zDU hm.ver).symm
theorem zG6 (a:At h q (zGM m vd vc vf))(hm:m.wf):ld1 h (Ptr q 5)=some vd/\ld1 h (Ptr q 6)=some vc/\ld1 h (Ptr q 7)=some vf:=by
 have h4:=zDU hm.ver
 refine⟨a.ld ?_,a.ld ?_,a.ld ?_⟩<;>simp[zGM,zBc,h4]
theorem zUj (a:At h q (zGM m vd vc vf))(hm:m.wf):ldN 8 h (Ptr q 0)=some (.agg (zGM m vd vc vf).toArray):=a.ldN (zBH hm)
end
def zPj (l:List (List UInt8))(i:Nat):Bool:=decide (i=0) || zXo (l.getD (i-1) []) (l.getD i [])
def zR6 (l:List (List UInt8)):Bool:=(List.range l.length).all (zPj l)
theorem zAae {l:List (List UInt8)}{i:Nat}(hi:i<l.length)(h:zPj l i=false):zR6 l=false:=by
 unfold zR6
 rw[zCF];exact⟨i,by simpa using hi,by simp[h]⟩
theorem zXw {l:List (List UInt8)}{i:Nat}(h:(List.range i).all (zPj l)=true)(hb:zPj l i=true):(List.range (i+1)).all (zPj l)=true:=by
 rw[List.range_succ,zC3,h];simp[hb]
theorem zAcX {H:zAw}{d:Dep}:zAz prg zEL [.agg (zED d).toArray] H λu H'=>u=str d.name/\Keep zAK H H':=by
 apply zNu
 unfold zMb
 simp only[zB3,zBb]
 have a:At (H.push (.cells (zED d).toArray zAE (0,0))) H.size (zED d):=At.push
 have d0:ld1 (H.push (.cells (zED d).toArray zAE (0,0))) (Ptr H.size 0)=some (str d.name):=a.ld rfl
 rw[zBi,zAa,zAu,d0,zAa]
 exact⟨rfl,Keep.push⟩
theorem zAcY {P:zA3}{H:zAw}{v:Value}{l:List Dep}(hv:SlE 6 P H v (l.map zED))(hw:∀ d∈l,d.wf)(hl:l.length<=1099511627776) :
  zAz prg zET [v,.func (.func zEL) #[] #[]] H λu H'=>u = .bool (zR6 (l.map (·.name)))/\Keep zAK H H':=by
 apply zIA
 unfold zGK
 have hlen:=hv.len
 rw[zAd]at hlen
 have hln:(l.map (·.name)).length=l.length:=by simp
 have hcall:∀ (d:Dep) (h:zAw) (k:zAm),(∀ h',Keep zAK h h'->k (str d.name) h')->zDO prg (.func (.func zEL) #[] #[]) [.agg (zED d).toArray] h k:=λd h k hk =>
  .inl ⟨zEL,#[],#[],rfl,by kernel_rfl,zAz.mono (R:=λu H'=>u=str d.name/\Keep zAK h H') (zAcX (d:=d)) λu h' hR=>by obtain⟨rfl,k'⟩:=hR;exact hk h' k'⟩
 refine zNB (λ_ h=>zR6 (l.map (·.name))=true/\Keep zAK H h) (λk hk=>?_) ?_
 ·refine zKn (λu h=>∃ i:Nat,1<=i/\u = .int .i64 (i:Nat)/\(List.range (min i l.length)).all (zPj (l.map (·.name)))=true/\Keep zAK H h) (λu _=>match u with | .int _ t=>l.length-t.toNat|_=>0) ⟨1,zAi _,rfl,?_,Keep.refl⟩ ?_
  ·by_cases h0:l.length=0
   ·rw[h0];rfl
   ·rw[zBO (by omega)];rfl
  rintro _ h ⟨i,hi,rfl,hall,kh⟩ k2 hk2
  have e1:zAB .no .lss (.int .i64 (i:Nat)) (.int .i64 (l.length:Nat))=some (.bool (decide (i<l.length))):=by
   rw[zAJ];simp only[zC5];congr 2;rw[decide_eq_decide];omega
  rw[hlen,zAa,e1,zAa,zAl]
  by_cases hlt:i<l.length
  ·rw[if_pos (by simpa using hlt)]
   have hg:l[i]? = some l[i]:=zAj hlt
   have hg':l[i-1]? = some (l[i-1]'(by omega)):=zAj (by omega)
   have hvh:=hv.keep kh λ_ _=>id
   obtain⟨b,o,hix,hpt,_⟩:=hvh.at (i:=i) (x:=zED l[i]) (by rw[zAr,hg];rfl)
   obtain⟨b',o',hix',hpt',_⟩:=hvh.at (i:=i-1) (x:=zED (l[i-1]'(by omega))) (by rw[zAr,hg'];rfl)
   have hwd:=hw _ (zAH hlt)
   have hwd':=hw _ (zAH (show i-1<l.length by omega))
   have hra:zPj (l.map (·.name)) i=zXo (l[i-1]'(by omega)).name l[i].name:=by
    have h0:((l.map (·.name)).getD (i-1) [])=(l[i-1]'(by omega)).name:=by simp[List.getD,hg']
    have h1:((l.map (·.name)).getD i [])=l[i].name:=by simp[List.getD,hg]
    unfold zPj
    rw[h0,h1,decide_eq_false (by omega)];rfl
   generalize l[i]=d at *
   generalize (l[i-1]'(by omega))=d' at *
   have e2:zAB .no .sub (.int .i64 (i:Nat)) (.int .i64 1)=some (.int .i64 ((i-1:Nat):Int)):=by
    rw[zAJ];simp only[zC5];rw[zCc (by omega) (by omega)];congr 2;omega
   rw[e2,zAa,hix' .i64,zAa,hpt'.agg (zDx hwd'),zAa,hix .i64,zAa,hpt.agg (zDx hwd),zAa]
   refine hcall d' h _ λh5 k5=>?_
   refine⟨(hpt.keep k5 id).agg (zDx hwd),?_⟩
   refine hcall d h5 _ λh6 k6=>?_
   have hge:zAB .no .geq (str d'.name) (str d.name)=some (.bool (!zXo d'.name d.name)):=by rw[zGu];exact zV8
   rw[hge,zAa,zAl]
   have kk:=kh.trans (k5.trans k6)
   cases hb:zXo d'.name d.name
   ·rw[if_pos (show(!false)=true from rfl)]
    exact⟨by rw[zAae (i:=i) (by rw[hln];exact hlt) (by rw[hra,hb])],kk⟩
   ·rw[if_neg (by decide),zB0 (by omega),zAa]
    refine hk2 _ _ ⟨i+1,by omega,rfl,?_,kk⟩ (by show l.length-(i+1)<l.length-i;omega)
    rw[zBO (by omega)]at hall ⊢
    exact zXw hall (by rw[hra,hb])
  ·rw[if_neg (by simpa using hlt)]
   refine hk _ _ ⟨?_,kh⟩
   rw[Nat.min_eq_right (by omega)]at hall
   unfold zR6
   rw[hln];exact hall
 ·rintro _ h ⟨h1,h2⟩
  exact⟨by rw[h1],h2⟩
def zSN (own:List UInt8)(d:Dep):Bool:=zIp d.name && !decide (d.name=own)&&zH8 d.want
def zOz (own:List UInt8)(l:List Dep):Bool:=l.all (zSN own)&&decide (l.length<=16)&&zR6 (l.map (·.name))
theorem zAbe {own:List UInt8}{l:List Dep}{d:Dep}(hd:d∈l)(h:zSN own d=false):zOz own l=false:=by
 unfold zOz
 rw[zCF.2 ⟨d,hd,by simp[h]⟩];rfl
theorem zAgJ {P:zA3}{H:zAw}{m:Man}{vd vc vf v:Value}{l:List Dep}(hv:SlE 6 P H v (l.map zED))(hw:∀ d∈l,d.wf)(hO:zRp H)(hl:l.length<=1099511627776) :
  zAz prg zE6 [.agg (zGM m vd vc vf).toArray,v] H λu H'=>u = .bool (zOz m.name l)/\Keep zAK H H':=by
 apply zK4
 unfold zIU
 have hlen:=hv.len
 rw[zAd]at hlen
 simp only[zB3,zBb]
 generalize hH1:H.push (.cells (zGM m vd vc vf).toArray zAg (0,0))=H1
 have k1:Keep zAK H H1:=by rw[<- hH1];exact Keep.push
 have a1:At H1 H.size (zGM m vd vc vf):=by rw[<- hH1];exact At.push
 have s1:H1.size=H.size+1:=by rw[<- hH1];simp
 refine zNB (λ_ h=>l.all (zSN m.name)=true/\Keep zAK H1 h) (λk hk=>?_) ?_
 ·rw[hlen,zAa]
  refine zKn (λu h=>∃ i:Nat,i<=l.length/\u = .int .i64 (i:Nat)/\(l.take i).all (zSN m.name)=true/\Keep zAK H1 h) (λu _=>match u with | .int _ t=>l.length-t.toNat|_=>0) ⟨0,zAA _,rfl,rfl,Keep.refl⟩ ?_
  rintro _ h ⟨i,hi,rfl,hall,kh⟩ k2 hk2
  have e1:zAB .no .lss (.int .i64 (i:Nat)) (.int .i64 (l.length:Nat))=some (.bool (decide (i<l.length))):=by
   rw[zAJ];simp only[zC5];congr 2;rw[decide_eq_decide];omega
  rw[e1,zAa,zAl]
  by_cases hlt:i<l.length
  ·rw[if_pos (by simpa using hlt)]
   have hg:l[i]? = some l[i]:=zAj hlt
   have hvh:=hv.keep (k1.trans kh) λ_ _=>id
   obtain⟨b,o,hix,hpt,_⟩:=hvh.at (i:=i) (x:=zED l[i]) (by rw[zAr,hg];rfl)
   have hwd:=hw _ (zAH hlt)
   have hmem:l[i]∈l:=zAH hlt
   have hnext:zSN m.name l[i]=true->(l.take (i+1)).all (zSN m.name)=true:=λhb=>by
    rw[zAF,hg,zC3,hall];simp[hb]
   generalize l[i]=d at *
   rw[hix .i64,zAa,hpt.agg (zDx hwd),zAa]
   simp only[zAj8,zBb]
   generalize hH6:h.push (.cells (zED zP9).toArray zAE (0,0))=h6
   have k6:Keep zAK h h6:=by rw[<- hH6];exact Keep.push
   have a6:At h6 h.size (zED zP9):=by rw[<- hH6];exact At.push
   obtain⟨h7,st7,a7,k7⟩:=a6.st (n:=6) (ds:=zED d) (zDx zNM) (zDx hwd) zIh
   have g1:=kh.1
   have k17:Keep zAK H1 h7:=(kh.trans k6).fresh k7 λb hb=>by omega
   have d0:ld1 h7 (Ptr h.size 0)=some (str d.name):=a7.ld rfl
   rw[st7,zAV,zBi,zAa,zAu,d0,zAa]
   refine zAI (zXl hwd.name) ?_
   rintro _ h8 ⟨rfl,k8⟩
   have a8:=a7.keep k8 id
   have k18:=k17.trans k8
   have m8:=zDy (a1.keep k18 id)
   have d8:ld1 h8 (Ptr h.size 0)=some (str d.name):=a8.ld rfl
   have w8:=zAad a8 hwd
   have hO8:=hO.keep (k1.trans k18) λ_ h=>h.elim
   have eqn:zAB .no .eql (str d.name) (str m.name)=some (.bool (decide (d.name=m.name))):=zDN
   have bad:zSN m.name d=false->∀ h',Keep zAK h8 h'->Value.bool false = .bool (zOz m.name l)/\Keep zAK H h':=λhb h' k'=>⟨by rw[zAbe hmem hb],k1.trans (k18.trans k')⟩
   cases hn:zIp d.name
   ·simp only[zBi,zAu,zAh,zBa,zAf,zAe,zAO,zAU,zAv,zAl,zAa,if_true,if_false,zAb,zAc,decide_true,decide_false,reduceCtorEq,zBW,zEJ,zEK,zEG,zEH,zEI,zBm,zA8]
    exact bad (by simp[zSN,hn]) _ Keep.refl
   cases hq:decide (d.name=m.name)
   ·simp only[zBi,zAu,zAh,d8,m8,eqn,hq,w8,zBa,zAf,zAe,zAO,zAU,zAv,zAl,zAa,if_true,if_false,zAb,zAc,decide_true,decide_false,reduceCtorEq,zBW,zEJ,zEK,zEG,zEH,zEI,zBm,zA8]
    refine zAI (zLa hwd.want hO8) ?_
    rintro _ h9 ⟨rfl,k9⟩
    cases hk9:zH8 d.want
    ·simp only[zBa,zAf,zAe,zAO,zAU,zAv,zAl,zAa,if_true,if_false,zAb,zAc,decide_true,decide_false,reduceCtorEq,zBW,zEJ,zEK,zEG,zEH,zEI,zBm,zA8]
     exact bad (by simp[zSN,hk9]) _ k9
    ·simp only[zBa,zAf,zAe,zAO,zAU,zAv,zAl,zAa,if_true,if_false,zAb,zAc,decide_true,decide_false,reduceCtorEq,zBW,zEJ,zEK,zEG,zEH,zEI,zBm,zA8]
     rw[zB0 (by omega),zAa]
     exact hk2 _ _ ⟨i+1,by omega,rfl,hnext (by simp[zSN,hn,hk9,of_decide_eq_false hq]),k18.trans k9⟩ (by show l.length-(i+1)<l.length-i;omega)
   ·simp only[zBi,zAu,zAh,d8,m8,eqn,hq,zBa,zAf,zAe,zAO,zAU,zAv,zAl,zAa,if_true,if_false,zAb,zAc,decide_true,decide_false,reduceCtorEq,zBW,zEJ,zEK,zEG,zEH,zEI,zBm,zA8]
    exact bad (by simp[zSN,of_decide_eq_true hq]) _ Keep.refl
  ·rw[if_neg (by simpa using hlt)]
   refine hk _ _ ⟨?_,kh⟩
   rwa [zAp (by omega)]at hall
 ·rintro _ h ⟨hall,kh⟩
  have e3:zAB .no .leq (.int .i64 (l.length:Nat)) (.int .i64 16)=some (.bool (decide (l.length<=16))):=by
   rw[zAJ];simp only[zC5];congr 2;rw[decide_eq_decide];omega
  have kk:=k1.trans kh
  rw[hlen,zAa,e3,zAa]
  unfold zOz
  rw[hall]
  cases h16:decide (l.length<=16)
  ·simp only[zBa,zAf,zAe,zAO,zAU,zAv,zAl,zAa,if_true,if_false,zAb,zAc,decide_true,decide_false,reduceCtorEq,zBW,zEJ,zEK,zEG,zEH,zEI,zBm,zA8,zBf,zA1]
   exact⟨by trivial,kk⟩
  ·simp only[zBa,zAf,zAe,zAO,zAU,zAv,zAl,zAa,if_true,if_false,zAb,zAc,decide_true,decide_false,reduceCtorEq,zBW,zEJ,zEK,zEG,zEH,zEI,zBm,zA8,zBf]
   refine zAI (zAcY (hv.keep kk λ_ _=>id) hw hl) ?_
   rintro _ h2 ⟨rfl,k2⟩
   simp only[zBa,zAf,zAe,zAO,zAU,zAv,zAl,zAa,if_true,if_false,zAb,zAc,decide_true,decide_false,reduceCtorEq,zBW,zEJ,zEK,zEG,zEH,zEI,zBm,zA8]
   exact⟨by trivial,kk.trans k2⟩
def zYV (m:Man):Bool:=zIp m.name&&zG4 m.ver&&zOz m.name m.deps&&zOz m.name m.conf
def zUk (l:List (List UInt8)):List UInt8:=zQU [32] l++[10]
theorem zAik {h:zAw}{q:Nat}{l:List (List UInt8)}{n:Nat}(a:At h q (l.map str))(hn:n=l.length):SlE 1 (· = q) h (.slice (some ⟨q,0,none⟩) n n) (zRA l):=by
 subst hn
 exact⟨⟨_,l.length,by rw[zOU],by rw[zOU];exact zAi _,.inr ⟨q,0,rfl,rfl,by rw[zMB];exact a.pt⟩⟩,zQr,zPP λv hv=>by obtain⟨x,_,rfl⟩:=zAo.1 hv;rfl⟩
theorem zAaf (s:List UInt8):∀ l:List (List UInt8),(zQU s l).length<=total l+l.length*s.length
 | []=>by simp[zQU]
 | x::xs=>by
  have:∀ ys:List (List UInt8),((ys.map (s ++ ·)).flatten).length=total ys+ys.length*s.length:=by
   intro ys
   induction ys with
   | nil=>simp[total]
   | cons y ys ih =>
    rw[zA2,zA7,zAt,zAt,ih]
    unfold total
    rw[zA7,zAt,zAQ,zCB];omega
  unfold zQU
  rw[zAt,this]
  unfold total
  rw[zA7,zAt,zAQ,zCB];omega
theorem zAcZ {H:zAw}{q n:Nat}{l:List (List UInt8)}(a:At H q (l.map str))(hn:n=l.length)(h4:l.length<=100)(ht:total l<=1099511627776) :
  zAz prg zEU [.slice (some ⟨q,0,none⟩) n n] H λu H'=>u=str (zUk l)/\Keep zAK H H':=by
 apply zPx
 unfold zPh
 refine zAI (zAgy (sep:=[32]) (zAik a hn) (λb hb=>by subst hb;exact a.lt) (by omega) (by simp) ht) ?_
 rintro _ h1 ⟨rfl,k1⟩
 have hj:=zAaf [32] l
 have e:zAB .no .add (str (zQU [32] l)) (.string ⟨#[10]⟩)=some (str (zQU [32] l++[10])):=zUf (b:=[10]) (by simp at hj ⊢;omega)
 rw[e,zAa]
 exact⟨rfl,k1⟩
theorem zAnc {a b c:ByteArray}:zGj prg zBJ 3 [(0,.string a),(1,.string b),(2,.string c)]=some #[.string a,.string b,.string c]:=by kernel_rfl
def zI7:List UInt8:=[112,97,99,107,97,103,101]
def zXx:List UInt8:=[110,101,101,100,115]
def zTz:List UInt8:=[114,101,102,117,115,101,115]
def zYW (w:List UInt8)(d:Dep):List UInt8:=zUk [w,d.name,zUi d.want]
def zAfr (m:Man):List UInt8:=zUk [zI7,m.name,zHP m.ver]++((m.deps.map (zYW zXx)).flatten++(m.conf.map (zYW zTz)).flatten)
theorem zQz {l:List UInt8}(h:zIp l=true):l.length<=32:=by
 unfold zIp at h
 simp only[zAk,decide_eq_true_eq]at h
 exact h.1.1.2
theorem zR7 {l:List (List UInt8)}:(zUk l).length<=total l+l.length+1:=by
 have:=zAaf [32] l
 unfold zUk
 rw[zAt];simp at this ⊢;omega
theorem zXy {w:zQ5}(h:w.wf):(zUi w).length<=42:=by
 unfold zUi
 cases hok:zH8 w
 ·simp
 cases hs:decide (w.op=[42])
 ·have hm:=(zXv hok hs).1
  have:∀ x∈zAff,x.length<=2:=by decide
  have h1:=this _ hm
  have h2:=zR3 (v:=w.ver) h.ver.p3
  simp only[cond_true,cond_false,zAt];omega
 ·simp
theorem zQA {w:List UInt8}{d:Dep}(hw:w.length<=10)(hd:d.wf)(hn:zIp d.name=true):(zYW w d).length<=100:=by
 have h1:=zQz hn
 have h2:=zXy hd.want
 have:=zR7 (l:=[w,d.name,zUi d.want])
 unfold zYW
 simp[total]at this ⊢;omega
theorem zQa {α:Type}{f:α->List UInt8}{n:Nat}:∀ {l:List α},(∀ x∈l,(f x).length<=n)->(l.map f).flatten.length<=l.length*n
 | [],_=>by simp
 | x::l,h=>by
  have ih:=zQa (f:=f) (n:=n) (l:=l) λy hy=>h y (zCW _ hy)
  have:=h x (List.mem_cons_self ..)
  rw[zA2,zA7,zAt,zAQ,zCB];omega
theorem zAj9 {a b c:List UInt8}:zGj prg zBJ 3 [(0,str a),(1,str b),(2,str c)]=some ([a,b,c].map str).toArray:=zAnc
theorem zXz {P:zA3}{p:Nat}{H:zAw}{v:Value}{l:List Dep}{w acc:List UInt8}{k:zAm}
  (hv:SlE 6 P H v (l.map zED)) (hP:∀ b,P b->b<p) (hb:BAt (p < ·) p H acc) (hp:p<H.size) (hw:∀ d∈l,d.wf) (hok:∀ d∈l,zIp d.name=true) (hl:l.length<=1048576) (hw8:w.length<=10) (hacc:acc.length<=1099511627776)
  (hO:zRp H) (hT:zYj H) (hN:NG<=p)
  (hk:∀ u h,BAt (p < ·) p h (acc++(l.map (zYW w)).flatten)->Keep (p <= ·) H h->k u h) :
  L1 (λk10=>λt25_2 h11 =>
    Mpu (zAB .no .lss t25_2 (.int .i64 (l.length:Nat))) λt26 =>
    Mcd t26 (
     Mpu (ixS 6 v t25_2) λt27 =>
     Mpu (ldN 6 h11 t27) λt28 =>
     zDq h11 zAE (zBE prg zAE) λt6 h12 =>
     Mwr (stN 6 h12 t6 t28) λh13 =>
     Mpu (fld 0 t6) λt29 =>
     Mpu (ld1 h13 t29) λt30 =>
     Mpu (fld 1 t6) λt31 =>
     Mpu (ldN 5 h13 t31) λt32 =>
     zAY prg zFH [t32] h13 λt33 h14 =>
     Mre [(ld1 h14 t29,t30)] (
     zD2 h14 zBJ 3 (zGj prg zBJ 3 [(0,str w),(1,t30),(2,t33)]) λt34 h15 =>
     zAY prg zEU [t34] h15 λt35 h16 =>
     zAY prg zB2 [Ptr p 0,t35] h16 λ_ h17 =>
     Mpu (zAB .no .add t25_2 (.int .i64 1)) λt37 =>
     k10 t37 h17)) (
     k t25_2 h11)) ((.int .i64 0)) H:=by
 refine zKn (λu h=>∃ i:Nat,i<=l.length/\u = .int .i64 (i:Nat)/\BAt (p < ·) p h (acc++((l.take i).map (zYW w)).flatten)/\Keep (p <= ·) H h) (λu _=>match u with | .int _ t=>l.length-t.toNat|_=>0) ⟨0,zAA _,rfl,by simpa using hb,Keep.refl⟩ ?_
 rintro _ h ⟨i,hi,rfl,hbi,kh⟩ k2 hk2
 have e1:zAB .no .lss (.int .i64 (i:Nat)) (.int .i64 (l.length:Nat))=some (.bool (decide (i<l.length))):=by
  rw[zAJ];simp only[zC5];congr 2;rw[decide_eq_decide];omega
 rw[e1,zAa,zAl]
 by_cases hlt:i<l.length
 ·rw[if_pos (by simpa using hlt)]
  have hg:l[i]? = some l[i]:=zAj hlt
  obtain⟨b,o,hix,hpt,_⟩:=(hv.keep kh λb hb=>by have:=hP b hb;omega).at (i:=i) (x:=zED l[i]) (by rw[zAr,hg];rfl)
  have hwd:=hw _ (zAH hlt)
  have hnd:=hok _ (zAH hlt)
  have htk:((l.take (i+1)).map (zYW w)).flatten=((l.take i).map (zYW w)).flatten++zYW w l[i]:=by
   rw[zAF,hg,zAG,zBt]
   simp only[Option.toList_some,zA2,List.map_nil,zA7,zCm,zAP]
  generalize l[i]=d at *
  rw[hix .i64,zAa,hpt.agg (zDx hwd),zAa]
  simp only[zAj8,zBb]
  generalize hH6:h.push (.cells (zED zP9).toArray zAE (0,0))=h6
  have k6:Keep zAK h h6:=by rw[<- hH6];exact Keep.push
  have a6:At h6 h.size (zED zP9):=by rw[<- hH6];exact At.push
  obtain⟨h7,st7,a7,k7⟩:=a6.st (n:=6) (ds:=zED d) (zDx zNM) (zDx hwd) zIh
  have g1:=kh.1
  have g6:=k6.1
  have k17:Keep zAK h h7:=k6.fresh k7 λb hb=>by omega
  have kH7:Keep (p <= ·) H h7:=kh.trans (k17.mono λ_ _ h=>h.elim)
  have d0:ld1 h7 (Ptr h.size 0)=some (str d.name):=a7.ld rfl
  rw[st7,zAV,zBi,zAa,zAu,d0,zAa,zBi,zAa,zAh,zAad a7 hwd,zAa]
  refine zAI (zAbb hwd.want (hO.keep kH7 λb hb=>by omega) (hT.keep kH7 λb hb=>by omega)) ?_
  rintro _ h8 ⟨rfl,k8⟩
  have d8:ld1 h8 (Ptr h.size 0)=some (str d.name):=(a7.keep k8 id).ld rfl
  refine⟨d8,?_⟩
  simp only[zAj9,zCo]
  generalize hH9:h8.push (.cells ([w,d.name,zUi d.want].map str).toArray zBJ (0,0))=h9
  have k9:Keep zAK h8 h9:=by rw[<- hH9];exact Keep.push
  have a9:At h9 h8.size ([w,d.name,zUi d.want].map str):=by rw[<- hH9];exact At.push
  have l1:=zQz hnd
  have l2:=zXy hwd.want
  refine zAI (zAcZ a9 rfl (by simp) (by simp[total];omega)) ?_
  rintro _ h10 ⟨rfl,k10⟩
  have kk:Keep zAK h h10:=k17.trans (k8.trans (k9.trans k10))
  have hb10:=hbi.keep kk λ_ _=>id
  have hdl:(zUk [w,d.name,zUi d.want]).length<=100:=zQA hw8 hwd hnd
  have hfl:=zQa (f:=zYW w) (n:=100) (l:=l.take i) λx hx=>zQA hw8 (hw x (zBg hx)) (hok x (zBg hx))
  have hti:(l.take i).length<=1048576:=by rw[zA5];omega
  have hsz:=kk.1
  refine zAI (zIg hb10 (by
   rw[zAt]
   have:(l.take i).length*100<=1048576*100:=zBs _ hti
   omega) λb hb=>by show p<b;omega) ?_
  rintro _ h11 ⟨rfl,hb11,k11⟩
  rw[zB0 (by omega),zAa]
  refine hk2 _ _ ⟨i+1,by omega,rfl,?_,?_⟩ (by show l.length-(i+1)<l.length-i;omega)
  ·rw[htk,<- zBe];exact hb11
  ·exact(kh.trans (kk.mono λ_ _ h=>h.elim)).trans (k11.mono λb _ hb=>by rcases hb with hb|hb<;>omega)
 ·rw[if_neg (by simpa using hlt)]
  rw[zAp (by omega)]at hbi
  exact hk _ _ hbi kh
structure zAfs (q:Nat)(Fd Fc Ff:zA3)(m:Man)(h:zAw):Prop where
 ex:∃ vd vc vf,At h q (zGM m vd vc vf)/\BufE 6 Fd h vd (m.deps.map zED)/\BufE 6 Fc h vc (m.conf.map zED)/\BufE 34 Ff h vf (m.files.map zEf)
 nq:¬ Fd q/\¬ Fc q/\¬ Ff q
 dis:∀ b,¬ (Fd b/\Fc b)/\¬ (Fd b/\Ff b)/\¬ (Fc b/\Ff b)
 lt:∀ b,Fd b\/Fc b\/Ff b->b<h.size
 wf:m.wf
theorem zAfs.keep {q:Nat}{Fd Fc Ff S:zA3}{m:Man}{h h':zAw}(a:zAfs q Fd Fc Ff m h)(k:Keep S h h')(hs:∀ b,b=q\/Fd b\/Fc b\/Ff b->¬ S b):zAfs q Fd Fc Ff m h':=by
 obtain⟨vd,vc,vf,h1,h2,h3,h4⟩:=a.ex
 exact⟨⟨vd,vc,vf,h1.keep k (hs q (.inl rfl)),h2.keep k λb hb=>hs b (.inr (.inl hb)),h3.keep k λb hb=>hs b (.inr (.inr (.inl hb))),h4.keep k λb hb=>hs b (.inr (.inr (.inr hb)))⟩,a.nq,a.dis,λb hb=>zAN (a.lt b hb) k.1,a.wf⟩
def zAmG (s:List UInt8)(v:Ver):Prop:=(v.wf/\zG4 v=true/\zHP v=s)\/((∀ x:Ver,x.p.length=3->zG4 x=true->zHP x≠s)/\v=zEY)
theorem zAmG.wf {s:List UInt8}{v:Ver}(h:zAmG s v):v.wf:=by
 rcases h with h|⟨_,rfl⟩
 ·exact h.1
 ·exact zG5
def zAgK (s:List UInt8)(w:zQ5):Prop:=(w.wf/\zH8 w=true/\zUi w=s)\/((∀ x:zQ5,x.wf->zH8 x=true->zUi x≠s)/\w=zUU)
theorem zAgK.wf {s:List UInt8}{w:zQ5}(h:zAgK s w):w.wf:=by
 rcases h with h|⟨_,rfl⟩
 ·exact h.1
 ·exact zQy
theorem Pt.closed {n0:Nat}{h h':zAw}{b o:Nat}{cs:List Value}(p:Pt h b o cs)(c:zO7 n0 h h'):Pt h' b o cs:=by
 obtain⟨x,T,f,hb,h1⟩:=p
 exact⟨x,T,f,c.2.2 _ _ hb (λds e=>by cases e),h1⟩
theorem SlE.closed {n n0:Nat}{P:zA3}{h h':zAw}{v:Value}{xs:List (List Value)}(s:SlE n P h v xs)(c:zO7 n0 h h'):SlE n P h' v xs:=by
 obtain⟨⟨a,k,h1,h2,h3⟩,h4,h5⟩:=s
 refine⟨⟨a,k,h1,h2,?_⟩,h4,h5⟩
 rcases h3 with h3|⟨b,o,e,hb,hp⟩
 ·exact .inl h3
 ·exact .inr ⟨b,o,e,hb,Pt.closed hp c⟩
theorem zMx.closed {P:zA3}{n0:Nat}{h h':zAw}{m:Man}{vd vc vf:Value}(v:zMx P h m vd vc vf)(c:zO7 n0 h h'):zMx P h' m vd vc vf :=
 ⟨SlE.closed v.d c,SlE.closed v.c c,SlE.closed v.f c,v.wf⟩
def zAka:Man:=⟨[],zEY,[],[],[]⟩
def zCq:Value := .slice none 0 0
def zAgL:List UInt8:=[104,101,108,108,111]
def mA1:Man:=⟨zAgL,⟨[1,0,0],[]⟩,[],[],[]⟩
def zAlQ:Dep:=⟨[108,105,98,99],⟨[94],⟨[2,1,0],[]⟩⟩⟩
def mA2:Man:=⟨zAgL,⟨[1,0,0],[]⟩,[zAlQ],[],[]⟩
def ms:Nat->Man
 | 0=>zAka
 | 1=>mA1
 | _=>mA2
structure PA (n0 q2 q n5:Nat)(H:zAw)(j:Nat)(h:zAw):Prop where
 r:At h q2 (zGM zAka zCq zCq zCq)
 m:∃ Fd Fc,zAfs q Fd Fc (λ_=>False) (ms j) h/\∀ b,Fd b\/Fc b->n5+2<=b
 k:Keep zAK H h
theorem PA.keep {n0 q2 q n5:Nat}{H:zAw}{j:Nat}{h h':zAw}{S:zA3}(p:PA n0 q2 q n5 H j h)(k:Keep S h h')(hs:∀ b,S b->H.size<=b/\b≠q2/\b≠q/\b<n5+2):PA n0 q2 q n5 H j h':=by
 obtain⟨Fd,Fc,h1,h2⟩:=p.m
 refine⟨p.r.keep k λh=>(hs _ h).2.1 rfl,⟨Fd,Fc,h1.keep k λb hb hS=>?_,h2⟩,p.k.fresh k λb hb=>(hs b hb).1⟩
 rcases hb with rfl|hb|hb|hb
 ·exact(hs _ hS).2.2.1 rfl
 ·have:=h2 b (.inl hb);have:=(hs b hS).2.2.2;omega
 ·have:=h2 b (.inr hb);have:=(hs b hS).2.2.2;omega
 ·exact hb
theorem zAil {a:Option Addr}{n c:Nat}:zGj prg zEq 1 [(0,.slice a n c)]=some #[.slice a n c]:=by kernel_rfl
theorem zAc0 {Pd:zA3}{H:zAw}{v:Value}{m:List UInt8}(hx:Sl Pd H v m)(hT:zTe H)(hPd:∀ b,Pd b->b<H.size)(hl:m.length<=1099511627776) :
  zAz prg zSu [v] H λu H'=>u=bv (zAcG (6::m))/\Keep zAK H H':=by
 apply zSD
 unfold zT7
 obtain⟨va,vc,hve,_⟩:=hx.sl
 simp only[zZQ,zBb,hve,zAil,zCo]
 rw[<- hve]
 generalize hH2:H.push (.cells (zBD zP6).toArray zCj (0,0))=H2
 have k2:Keep zAK H H2:=by rw[<- hH2];exact Keep.push
 have hs2:H2.size=H.size+1:=by rw[<- hH2];simp
 have hr2:H2[H.size]? = some (.cells (zBD zP6).toArray zCj (0,0)):=by rw[<- hH2];exact zCh
 generalize hH3:H2.push (.cells #[v] zEq (0,0))=H3
 have k3:Keep zAK H2 H3:=by rw[<- hH3];exact Keep.push
 have hs3:H3.size=H2.size+1:=by rw[<- hH3];simp
 have hv3:H3[H2.size]? = some (.cells #[v] zEq (0,0)):=by rw[<- hH3];exact zCh
 have kk:Keep zAK H H3:=k2.trans k3
 have sv:Sl Pd H3 v m:=hx.keep kk λ_ _=>id
 have hvv:SlE 1 (· = H2.size) H3 (.slice (some ⟨H2.size,0,none⟩) 1 1) (zHM ([(v,m)].map (·.1))):=by
  refine⟨⟨_,1,rfl,zAi _,.inr ⟨H2.size,0,rfl,rfl,?_⟩⟩,zQr,zVi (P:=Pd) (H:=H3) ?_⟩
  ·rw[zMB];exact Pt.of hv3
  ·intro x hx;simp at hx;subst hx;exact sv
 refine zAI (zXk (Pd:=Pd) hvv ?_ (hT.keep kk λ_ h=>h.elim) (λb hb=>by omega) (λb hb=>?_) ?_ (by simp)) ?_
 ·intro x hx;simp at hx;subst hx;exact sv
 ·have:=hPd b hb;omega
 ·simp[zKg];omega
 rintro _ H4 ⟨rfl,k4⟩
 have hr4:=(k3.trans k4).at hr2 id
 have e6:(bO 6::zKg [(v,m)])=6::m:=by simp[zKg];rfl
 rw[zRQ hr4 (n:=32) rfl zGh,zAV,zPO (zBp hr4) zGh,zAa]
 refine⟨by rw[e6],?_⟩
 have:=(kk.trans k4)
 refine⟨by simp;exact this.1,λi hi _=>?_⟩
 rw[zAC,if_neg (by omega),this.2 i hi id]
def zWo:zHu:=⟨[],List.replicate 32 0,0⟩
theorem zWp:zWo.wf:=⟨by simp[zWo],by simp[zWo],by simp[zWo]⟩
theorem zAc1:zBE prg zBq=some (zEf zWo).toArray:=by kernel_rfl
section
variable {h:zAw} {b o:Nat} {f:zHu}
theorem zAim (a:Pt h b o (zEf f)):ld1 h (Ptr b o)=some (str f.name):=a.cell0 rfl
theorem zYX (a:Pt h b o (zEf f))(hf:f.wf):ld1 h (Ptr b (o+33))=some (.int .i64 f.size):=a.cell (i:=33) (by
 unfold zEf
 rw[zC1,zBc (by simp[hf.sum])]
 simp[hf.sum])
theorem zAc2 (a:Pt h b o (zEf f))(hf:f.wf):ldN 32 h (Ptr b (o+1))=some (bv f.sum):=by
 have:Pt h b (o+1) (zBD f.sum):=Pt.mid (A:=[str f.name]) (B:=zBD f.sum) (C:=[.int .i64 f.size]) (o:=o) (by simpa [zEf] using a) (by simp)
 exact this.agg (by simp[hf.sum])
end
structure BSS (P Q:zA3)(H:zAw)(v:Value)(xs:List (Value×List UInt8)):Prop where
 sl:SlE 1 P H v (zHM (xs.map (·.1)))
 el:∀ x∈xs,Sl Q H x.1 x.2
theorem BSS.keep {P Q S:zA3}{H H':zAw}{v:Value}{xs:List (Value×List UInt8)}(h:BSS P Q H v xs)(k:Keep S H H')(h1:∀ b,P b->¬ S b)(h2:∀ b,Q b->¬ S b):BSS P Q H' v xs :=
 ⟨h.sl.keep k h1,λx hx=>(h.el x hx).keep k h2⟩
theorem BSS.len {P Q:zA3}{H:zAw}{v:Value}{xs:List (Value×List UInt8)}(h:BSS P Q H v xs):zDp v=some (.int .i64 xs.length):=by have:=h.sl.len;simpa using this
theorem BSS.at {P Q:zA3}{H:zAw}{v:Value}{xs:List (Value×List UInt8)}(h:BSS P Q H v xs){i:Nat}{x:Value×List UInt8}(hi:xs[i]? = some x):Sl Q H x.1 x.2/\∃ p,(∀ k,ixS 1 v (.int k i)=some p)/\ld1 H p=some x.1:=by
 obtain⟨b,o,hix,hpt,_⟩:=h.sl.at (i:=i) (x:=[x.1]) (zOi (by simp[hi]))
 exact⟨h.el x (zAD hi),Ptr b o,hix,hpt.cell0 rfl⟩
def zXA (f:zHu)(b:List UInt8):Bool:=decide ((b.length:Int)=f.size)&&decide (zAcG (6::b)=f.sum)
def zFl:List zHu->List (List UInt8)->Bool
 | f::fs,b::bs=>zXA f b&&zFl fs bs
 | [],[]=>true
 | _,_=>false
theorem zXB:∀ {fs:List zHu} {bs:List (List UInt8)} {i:Nat} {f:zHu} {b:List UInt8},fs[i]? = some f->bs[i]? = some b->zFl (fs.take (i+1)) (bs.take (i+1))=(zFl (fs.take i) (bs.take i)&&zXA f b)
 | [],_,i,f,b,h,_=>by simp at h
 | _::_,[],i,f,b,_,h=>by simp at h
 | g::fs,c::bs,0,f,b,h1,h2=>by
  simp at h1 h2;subst h1 h2
  simp[zFl]
 | g::fs,c::bs,i+1,f,b,h1,h2=>by
  have ih:=zXB (fs:=fs) (bs:=bs) (i:=i) (f:=f) (b:=b) (by simpa using h1) (by simpa using h2)
  rw[zBY,zBY,zFl,ih,zBY,zBY,zFl,Bool.and_assoc]
theorem zAag:∀ {fs:List zHu} {bs:List (List UInt8)} {i:Nat} {f:zHu} {b:List UInt8},fs[i]? = some f->bs[i]? = some b->zXA f b=false->zFl fs bs=false
 | [],_,i,f,b,h,_,_=>by simp at h
 | _::_,[],i,f,b,_,h,_=>by simp at h
 | g::fs,c::bs,0,f,b,h1,h2,h3=>by
  simp at h1 h2;subst h1 h2
  simp[zFl,h3]
 | g::fs,c::bs,i+1,f,b,h1,h2,h3=>by
  have ih:=zAag (fs:=fs) (bs:=bs) (i:=i) (f:=f) (b:=b) (by simpa using h1) (by simpa using h2) h3
  rw[zFl,ih,zB1]
theorem zAah:∀ {fs:List zHu} {bs:List (List UInt8)},bs.length≠fs.length->zFl fs bs=false
 | [],[],h=>absurd rfl h
 | [],_::_,_=>rfl
 | _::_,[],_=>rfl
 | f::fs,b::bs,h=>by
  rw[zFl,zAah (fs:=fs) (bs:=bs) (λe=>h (by simp[e])),zB1]
theorem zYY {n:Nat}{s:Int}:zAB .no .neq (.int .i64 (n:Nat)) (.int .i64 s)=some (.bool (!decide ((n:Int)=s))):=by
 rw[zAJ];simp only[zC5];congr 2
theorem zAc3 {P Q R:zA3}{H:zAw}{m:Man}{vd vc vf v:Value}{xs:List (Value×List UInt8)}(hv:zMx P H m vd vc vf)(hx:BSS Q R H v xs)(hR:∀ b,R b->b<H.size)(hl:xs.length=m.files.length->xs.length<=1048576)(hb:∀ (i:Nat) (x:Value×List UInt8) (f:zHu),xs[i]? = some x->m.files[i]? = some f->(x.2.length:Int)=f.size->x.2.length<=1048576)(hT:zTe H) :
  zAz prg zE5 [.agg (zGM m vd vc vf).toArray,v] H λu H'=>u = .bool (zFl m.files (xs.map (·.2)))/\Keep zAK H H':=by
 apply zK2
 unfold zIR
 simp only[zB3,zBb]
 generalize hH1:H.push (.cells (zGM m vd vc vf).toArray zAg (0,0))=H1
 have k1:Keep zAK H H1:=by rw[<- hH1];exact Keep.push
 have a1:At H1 H.size (zGM m vd vc vf):=by rw[<- hH1];exact At.push
 have w:=hv.wf
 have g7:=(zG6 a1 w).2.2
 have lf:zDp vf=some (.int .i64 m.files.length):=by have:=hv.f.len;rwa [zAd]at this
 have en:zAB .no .neq (.int .i64 (xs.length:Nat)) (.int .i64 (m.files.length:Nat))=some (.bool (!decide (xs.length=m.files.length))):=by
  rw[zAJ];simp only[zC5];congr 2;rw[zAW];simp<;>omega
 rw[hx.len,zAa,zBi,zAa,zAh,g7,zAa,lf,zAa,en,zAa,zAl]
 by_cases hne:xs.length=m.files.length
 ·rw[if_neg (by simp[hne])]
  have hl:=hl hne
  refine zNB (λ_ h=>zFl m.files (xs.map (·.2))=true/\Keep zAK H h) (λk hk=>?_) ?_
  ·rw[zAa,g7,zAa,lf,zAa]
   refine zKn (λu h=>∃ i:Nat,i<=m.files.length/\u = .int .i64 (i:Nat)/\zFl (m.files.take i) ((xs.map (·.2)).take i)=true/\Keep zAK H1 h) (λu _=>match u with | .int _ t=>m.files.length-t.toNat|_=>0) ⟨0,zAA _,rfl,rfl,Keep.refl⟩ ?_
   rintro _ h ⟨i,hi,rfl,hall,kh⟩ k2 hk2
   have e1:zAB .no .lss (.int .i64 (i:Nat)) (.int .i64 (m.files.length:Nat))=some (.bool (decide (i<m.files.length))):=by
    rw[zAJ];simp only[zC5];congr 2;rw[decide_eq_decide];omega
   rw[e1,zAa,zAl]
   by_cases hlt:i<m.files.length
   ·rw[if_pos (by simpa using hlt)]
    have k0:=k1.trans kh
    have hg:m.files[i]? = some m.files[i]:=zAj hlt
    have hgx:xs[i]? = some (xs[i]'(by omega)):=zAj (by omega)
    obtain⟨b,o,hix,hpt,_⟩:=(hv.f.keep k0 λ_ _=>id).at (i:=i) (x:=zEf m.files[i]) (by rw[zAr,hg];rfl)
    have hwf:=w.files _ (zAH hlt)
    have hbl:=hb i _ _ hgx hg
    have hgb:(xs.map (·.2))[i]? = some (xs[i]'(by omega)).2:=by rw[zAr,hgx];rfl
    have hft:=zXB hg hgb
    rw[hall,zBf]at hft
    have hfb:=zAag hg hgb
    generalize m.files[i]=f at *
    generalize (xs[i]'(by omega))=x at *
    rw[hix .i64,zAa,hpt.agg (zDP hwf),zAa]
    simp only[zAc1,zBb]
    generalize hH6:h.push (.cells (zEf zWo).toArray zBq (0,0))=h6
    have k6:Keep zAK h h6:=by rw[<- hH6];exact Keep.push
    have a6:At h6 h.size (zEf zWo):=by rw[<- hH6];exact At.push
    obtain⟨h7,st7,a7,k7⟩:=a6.st (n:=34) (ds:=zEf f) (zDP zWp) (zDP hwf) zNc
    have g0:=k0.1
    have k07:Keep zAK H h7:=(k0.trans k6).fresh k7 λb hb=>by omega
    have k17:Keep zAK H1 h7:=(kh.trans k6).fresh k7 λb hb=>by have:=kh.1;omega
    have hx7:=hx.keep k07 (λ_ _=>id) λ_ _=>id
    obtain⟨hs,p,hp,hld⟩:=hx7.at hgx
    have d33:=zYX a7.pt hwf
    have d1:=zAc2 a7.pt hwf
    rw[zAh]at d33 d1
    rw[st7,zAV,hp .i64,zAa,hld,zAa,hs.len,zAa,zBi,zAa,zAh,d33,zAa,zYY,zAa]
    have bad:zXA f x.2=false->∀ g,Keep zAK H g->Value.bool false = .bool (zFl m.files (xs.map (·.2)))/\Keep zAK H g:=λhf g kg=>⟨by rw[hfb hf],kg⟩
    cases hsz:decide ((x.2.length:Int)=f.size)
    ·simp only[zBa,zAf,zAe,zAO,zAU,zAv,zAl,zAa,if_true,if_false,zAb,zAc,decide_true,decide_false,reduceCtorEq,zBW,zEJ,zEK,zEG,zEH,zEI,zBm,zA8]
     exact bad (by simp[zXA,hsz]) _ k07
    ·have hbl:=hbl (of_decide_eq_true hsz)
     simp only[hp .i64,hld,zBi,zAh,d1,zBa,zAf,zAe,zAO,zAU,zAv,zAl,zAa,if_true,if_false,zAb,zAc,decide_true,decide_false,reduceCtorEq,zBW,zEJ,zEK,zEG,zEH,zEI,zBm,zA8]
     refine zAI (zAc0 hs (hT.keep k07 λ_ h=>h.elim) (λb hb=>zAN (hR b hb) k07.1) (by omega)) ?_
     rintro _ h9 ⟨rfl,k9⟩
     have d1':=zAc2 (a7.keep k9 id).pt hwf
     rw[zAh]at d1'
     refine⟨d1',?_⟩
     rw[zA8,zAh4 zGh hwf.sum,zAa]
     cases hsm:decide (zAcG (6::x.2)=f.sum)
     ·simp only[zBa,zAf,zAe,zAO,zAU,zAv,zAl,zAa,if_true,if_false,zAb,zAc,decide_true,decide_false,reduceCtorEq,zBW,zEJ,zEK,zEG,zEH,zEI,zBm,zA8]
      exact bad (by simp[zXA,hsm]) _ (k07.trans k9)
     ·simp only[zBa,zAf,zAe,zAO,zAU,zAv,zAl,zAa,if_true,if_false,zAb,zAc,decide_true,decide_false,reduceCtorEq,zBW,zEJ,zEK,zEG,zEH,zEI,zBm,zA8]
      rw[zB0 (by omega),zAa]
      exact hk2 _ _ ⟨i+1,by omega,rfl,by rw[hft];simp[zXA,of_decide_eq_true hsz,of_decide_eq_true hsm],k17.trans k9⟩ (by show m.files.length-(i+1)<m.files.length-i;omega)
   ·rw[if_neg (by simpa using hlt)]
    refine hk _ _ ⟨?_,k1.trans kh⟩
    rwa [zAp (by omega),zAp (by simp;omega)]at hall
  ·rintro _ h ⟨h1,h2⟩
   exact⟨by rw[h1],h2⟩
 ·rw[if_pos (by simp[hne])]
  exact⟨by rw[zAah (by simpa using hne)],k1⟩
theorem zAkb {n m:Nat}:zAB .no .gtr (.int .i64 (n:Nat)) (.int .i64 (m:Nat))=some (.bool (decide (n > m))):=by
 rw[zAJ];simp only[zC5];congr 2;rw[decide_eq_decide];omega
theorem zAin {h:zAw}{q:Nat}{m:Man}{vd vc vf:Value}(a:At h q (zGM m vd vc vf))(hm:m.wf):ld1 h (Ptr q 4)=some (str m.ver.pre):=a.ld (by
 obtain⟨x,y,z,e⟩:=Ver.cases3 hm.ver
 obtain⟨n,⟨p,pre⟩,d,c,f⟩:=m
 simp only at e
 subst e
 rfl)
end Go.Proofs.YticdfkoncnnmmaaGreatDoor
namespace Go.Proofs.YticdfkoncnnmmaaGreatDoor.Came
open Go.X
theorem zAft {q:List (List Value)}(h:∀ x∈q,∃ y:Dep,y.wf/\x=zED y):∃ ys:List Dep,q=ys.map zED/\∀ y∈ys,y.wf:=by
 induction q with
 | nil=>exact⟨[],rfl,λy h=>by cases h⟩
 | cons x q ih =>
  obtain⟨ys,hy,hw⟩:=ih λx hx=>h x (by simp[hx])
  obtain⟨y,yw,rfl⟩:=h x (by simp)
  exact⟨y::ys,by rw[hy];rfl,λz hz=>by
   rcases zAq.1 hz with rfl|hz
   ·exact yw
   ·exact hw z hz⟩
theorem zAc4 {q:List (List Value)}(h:∀ x∈q,∃ y:zHu,y.wf/\x=zEf y):∃ ys:List zHu,q=ys.map zEf/\∀ y∈ys,y.wf:=by
 induction q with
 | nil=>exact⟨[],rfl,λy h=>by cases h⟩
 | cons x q ih =>
  obtain⟨ys,hy,hw⟩:=ih λx hx=>h x (by simp[hx])
  obtain⟨y,yw,rfl⟩:=h x (by simp)
  exact⟨y::ys,by rw[hy];rfl,λz hz=>by
   rcases zAq.1 hz with rfl|hz
   ·exact yw
   ·exact hw z hz⟩
theorem zAlR:zAbN zAE [(0,zBJ),(1,zBI)]=true:=by kernel_rfl
theorem zAgM:prg.cellsOf zAE=6:=by kernel_rfl
theorem zAkc {w:World}{d:Nat}{cs:List Value}(h:Shp prg w d zAE cs):∃ x:Dep,x.wf/\cs=zED x:=by
 obtain⟨d',hl,hfl⟩:=zNL zAlR h
 rw[zAgM]at hl
 have h0:=hfl 0 0 zBJ rfl
 have h1:=hfl 1 1 zBI rfl
 rw[zOy]at h0;rw[zYU]at h1
 obtain⟨s,hs,hsl⟩:=zSA zOY h0
 obtain⟨n,hsn,hnl⟩:=str_of hsl
 obtain⟨v,hv,hvc⟩:=zAcW h1
 refine⟨⟨n,v⟩,⟨hv,hnl⟩,?_⟩
 have e1:cs=(cs.drop 0).take 1++(cs.drop 1).take 5:=by
  rw[zAp (l:=cs.drop 1) (by simp;omega),zCe]
  exact(zBx 1 cs).symm
 rw[e1,hs,hvc,hsn];rfl
theorem zAkd:zAbN zBq [(0,zBJ),(1,zCj),(33,zHL)]=true:=by kernel_rfl
theorem zAc5:prg.cellsOf zBq=34:=by kernel_rfl
theorem zAgN:prg.cellsOf zHL=1:=by kernel_rfl
theorem zAio {w:World}{d:Nat}{cs:List Value}(h:Shp prg w d zBq cs):∃ x:zHu,x.wf/\cs=zEf x:=by
 obtain⟨d',hl,hfl⟩:=zNL zAkd h
 rw[zAc5]at hl
 have h0:=hfl 0 0 zBJ rfl
 have h1:=hfl 1 1 zCj rfl
 have h2:=hfl 2 33 zHL rfl
 rw[zOy]at h0;rw[zAcU]at h1;rw[zAgN]at h2
 obtain⟨s,hs,hsl⟩:=zSA zOY h0
 obtain⟨n,hsn,hnl⟩:=str_of hsl
 obtain⟨e,he,hu,hc⟩:=zAj6
 obtain⟨l,hll,hlc,hlw⟩:=zZP he hu hc zAcU h1
 obtain⟨r,hr,hrc⟩:=zAa1 hlw
 obtain⟨k,hk,hkw⟩:=shp_int zAig h2
 refine⟨⟨n,r,k⟩,⟨hnl,by show r.length=32;omega,zAij hkw⟩,?_⟩
 have e1:cs=(cs.drop 0).take 1++((cs.drop 1).take 32++(cs.drop 33).take 1):=by
  rw[zAp (l:=cs.drop 33) (by simp;omega),zCe]
  have h33:cs.drop 33=(cs.drop 1).drop 32:=by rw[zCL]
  rw[h33,zBx]
  exact(zBx 1 cs).symm
 rw[e1,hs,hlc,hrc,hk,hsn];rfl
theorem zAke:prg.underlying zDk=some (.slice zAE):=by kernel_rfl
theorem zAip:prg.underlying zGH=some (.slice zBq):=by kernel_rfl
theorem zAc6 {w:World}{d:Nat}{cs:List Value}(hl:cs.length=1)(h:Shp prg w d zDk cs):∃ v,cs=[v]/\∃ xs:List Dep,SlE 6 (· < w.heap.size) w.heap v (xs.map zED)/\∀ x∈xs,x.wf:=by
 match cs,hl with
 | [v],_ =>
  refine⟨v,rfl,?_⟩
  cases d with
  | zero=>exact h.elim
  | succ d =>
   simp only[Shp,zAke]at h
   rcases h with h|⟨a,len,cap,hv,hle,hcap,hel⟩
   ·obtain rfl:v = .slice none 0 0:=by simpa using h
    exact⟨[],SlE.nil,λx h=>by cases h⟩
   ·obtain rfl:v = .slice (some a) len cap:=by simpa using hv
    rw[zAgM]at hel
    obtain⟨q,hq,hs,hqi⟩:=zLm (n:=6) (q:=λcs=>∃ y:Dep,y.wf/\cs=zED y) (by omega) hle (λcs ⟨y,_,e⟩ c hc=>by subst e;exact zIh c hc) λi hi=>by
     obtain⟨cs',h1,h2⟩:=hel i hi
     exact⟨cs',h1,zAkc h2⟩
    obtain⟨ys,rfl,hw⟩:=zAft hqi
    exact⟨ys,hs,hw⟩
theorem zAfu {w:World}{d:Nat}{cs:List Value}(hl:cs.length=1)(h:Shp prg w d zGH cs):∃ v,cs=[v]/\∃ xs:List zHu,SlE 34 (· < w.heap.size) w.heap v (xs.map zEf)/\∀ x∈xs,x.wf:=by
 match cs,hl with
 | [v],_ =>
  refine⟨v,rfl,?_⟩
  cases d with
  | zero=>exact h.elim
  | succ d =>
   simp only[Shp,zAip]at h
   rcases h with h|⟨a,len,cap,hv,hle,hcap,hel⟩
   ·obtain rfl:v = .slice none 0 0:=by simpa using h
    exact⟨[],SlE.nil,λx h=>by cases h⟩
   ·obtain rfl:v = .slice (some a) len cap:=by simpa using hv
    rw[zAc5]at hel
    obtain⟨q,hq,hs,hqi⟩:=zLm (n:=34) (q:=λcs=>∃ y:zHu,y.wf/\cs=zEf y) (by omega) hle (λcs ⟨y,_,e⟩ c hc=>by subst e;exact zNc c hc) λi hi=>by
     obtain⟨cs',h1,h2⟩:=hel i hi
     exact⟨cs',h1,zAio h2⟩
    obtain⟨ys,rfl,hw⟩:=zAc4 hqi
    exact⟨ys,hs,hw⟩
theorem zAlS:zAbN zAg [(0,zBJ),(1,zAT),(5,zDk),(6,zDk),(7,zGH)]=true:=by kernel_rfl
theorem zAc7:prg.cellsOf zAg=8:=by kernel_rfl
theorem zAiq:prg.cellsOf zDk=1:=by kernel_rfl
theorem zAfv:prg.cellsOf zGH=1:=by kernel_rfl
theorem zAgO {w:World}{d:Nat}{cs:List Value}(h:Shp prg w d zAg cs):∃ (m:Man) (vd vc vf:Value),zMx (· < w.heap.size) w.heap m vd vc vf/\cs=zGM m vd vc vf:=by
 obtain⟨d',hl,hfl⟩:=zNL zAlS h
 rw[zAc7]at hl
 have h0:=hfl 0 0 zBJ rfl
 have h1:=hfl 1 1 zAT rfl
 have h2:=hfl 2 5 zDk rfl
 have h3:=hfl 3 6 zDk rfl
 have h4:=hfl 4 7 zGH rfl
 rw[zOy]at h0;rw[zAcT]at h1;rw[zAiq]at h2 h3;rw[zAfv]at h4
 obtain⟨s,hs,hsl⟩:=zSA zOY h0
 obtain⟨n,hsn,hnl⟩:=str_of hsl
 obtain⟨v,hv,hvc⟩:=zAgI h1
 obtain⟨vd,hvd,ds,hds,hdw⟩:=zAc6 (by simp;omega) h2
 obtain⟨vc,hvc',cc,hcs,hcw⟩:=zAc6 (by simp;omega) h3
 obtain⟨vf,hvf,fs,hfs,hfw⟩:=zAfu (by simp;omega) h4
 refine⟨⟨n,v,ds,cc,fs⟩,vd,vc,vf,⟨hds,hcs,hfs,⟨hnl,hv,hdw,hcw,hfw⟩⟩,?_⟩
 have e1:cs=(cs.drop 0).take 1++((cs.drop 1).take 4++((cs.drop 5).take 1++((cs.drop 6).take 1++(cs.drop 7).take 1))):=by
  match cs,hl with
  | [a,b,c,d,e,f,g,i],_=>rfl
 rw[e1,hs,hvc,hvd,hvc',hvf,hsn];rfl
theorem zAkf:prg.underlying zEq=some (.slice zCk):=by kernel_rfl
theorem zAlT:prg.underlying zCk=some (.int .u8):=by kernel_rfl
theorem zAkg:prg.cellsOf zCk=1:=by kernel_rfl
theorem zAc8 {q:List (List Value)}(h:∀ x∈q,∃ y:UInt8,x=[.int .u8 y.toNat]):∃ l:List UInt8,q=l.map λy=>[Value.int .u8 y.toNat]:=by
 induction q with
 | nil=>exact⟨[],rfl⟩
 | cons x q ih =>
  obtain⟨l,hl⟩:=ih λx hx=>h x (by simp[hx])
  obtain⟨y,rfl⟩:=h x (by simp)
  exact⟨y::l,by rw[hl];rfl⟩
theorem zXC:∀ l:List UInt8,(l.map λy=>[Value.int .u8 y.toNat]).flatten=zBD l
 | []=>rfl
 | x::l=>by rw[zA2,zA7,zXC l];rfl
theorem zAlU {w:World}{d:Nat}{cs:List Value}(hl:cs.length=1)(h:Shp prg w d zEq cs):∃ v,cs=[v]/\∃ l:List UInt8,l.length<=9223372036854775807/\Sl (· < w.heap.size) w.heap v l:=by
 match cs,hl with
 | [v],_ =>
  refine⟨v,rfl,?_⟩
  cases d with
  | zero=>exact h.elim
  | succ d =>
   simp only[Shp,zAkf]at h
   rcases h with h|⟨a,len,cap,hv,hle,hcap,hel⟩
   ·obtain rfl:v = .slice none 0 0:=by simpa using h
    exact⟨[],by simp,Sl.nil⟩
   ·obtain rfl:v = .slice (some a) len cap:=by simpa using hv
    rw[zAkg]at hel
    have h1c:∀ cs:List Value,(∃ y:UInt8,cs=[.int .u8 y.toNat])->∀ c∈cs,c.oneCell'=true:=by
     rintro _ ⟨y,rfl⟩ c hc
     obtain rfl:c=_:=by simpa using hc
     rfl
    obtain⟨q,hq,hs,hqi⟩:=zLm (n:=1) (q:=λcs=>∃ y:UInt8,cs=[.int .u8 y.toNat]) (by omega) hle h1c λi hi=>by
     obtain⟨cs',h1,h2⟩:=hel i hi
     obtain⟨n,hn,hw⟩:=Go.X.shp_int zAlT h2
     refine⟨cs',h1,UInt8.ofNat n.toNat,?_⟩
     rw[hn]
     have:0<=n/\n<=255:=by
      simp only[Lit.wf,IntKind.min,IntKind.max,IntKind.signed,IntKind.bits]at hw
      simp at hw
      omega
     have e:(((UInt8.ofNat n.toNat).toNat:Nat):Int)=n:=by rw[UInt8.toNat_ofNat'];omega
     rw[e]
    obtain⟨l,rfl⟩:=zAc8 hqi
    rw[zAd]at hq
    have hm:maxLen=9223372036854775807:=rfl
    obtain⟨⟨a',c',he,hc,hx⟩,_,_⟩:=hs
    rw[zAd]at he
    cases he
    rcases hx with hx|⟨b,o,e,hb',⟨cs,T,f,hb,h1,h2⟩⟩
    ·have:l=[]:=by simpa using hx
     subst this
     exact⟨[],by simp,zS8,⟨some a,cap,rfl,zAA _,λ_ _=>rfl⟩,λb hb=>absurd rfl (zHZ hb).2⟩
    ·cases e
     have hfl:=zXC l
     rw[hfl]at h1 h2
     have hbl:(zBD l).length=l.length:=by simp[zBD]
     exact⟨l,by omega,Bs.mk hb rfl (by omega) (by rw[<- hbl];exact h2),⟨_,cap,rfl,by omega,λ_ _=>rfl⟩,λb2 hb2=>by obtain⟨rfl,_⟩:=zHZ hb2;exact hb'⟩
theorem zAkh:prg.underlying zMP=some (.slice zEq):=by kernel_rfl
theorem zAir:prg.cellsOf zEq=1:=by kernel_rfl
theorem zAki {w:World}{q:List (List Value)}(h:∀ x∈q,∃ v,x=[v]/\∃ l:List UInt8,l.length<=9223372036854775807/\Sl (· < w.heap.size) w.heap v l):∃ xs:List (Value×List UInt8),q=zHM (xs.map (·.1))/\∀ x∈xs,Sl (· < w.heap.size) w.heap x.1 x.2:=by
 induction q with
 | nil=>exact⟨[],rfl,λx h=>by cases h⟩
 | cons x q ih =>
  obtain⟨xs,hx,hw⟩:=ih λx hx=>h x (by simp[hx])
  obtain⟨v,rfl,l,_,hs⟩:=h x (by simp)
  exact⟨(v,l)::xs,by rw[hx];rfl,λz hz=>by
   rcases zAq.1 hz with rfl|hz
   ·exact hs
   ·exact hw z hz⟩
theorem zAkj {w:World}{d:Nat}{v:Value}(h:Shp prg w d zMP [v]):∃ xs:List (Value×List UInt8),xs.length<=9223372036854775807/\BSS (· < w.heap.size) (· < w.heap.size) w.heap v xs:=by
 cases d with
 | zero=>exact h.elim
 | succ d =>
  simp only[Shp,zAkh]at h
  rcases h with h|⟨a,len,cap,hv,hle,hcap,hel⟩
  ·obtain rfl:v = .slice none 0 0:=by simpa using h
   exact⟨[],by simp,SlE.nil,λx h=>by cases h⟩
  ·obtain rfl:v = .slice (some a) len cap:=by simpa using hv
   rw[zAir]at hel
   obtain⟨q,hq,hs,hqi⟩:=zLm (n:=1) (q:=λcs=>cs.length=1/\∃ v,cs=[v]/\∃ l:List UInt8,l.length<=9223372036854775807/\Sl (· < w.heap.size) w.heap v l) (by omega) hle (λcs ⟨_,v,e,l,_,hs⟩ c hc=>by subst e;simp at hc;subst hc;exact hs.one) λi hi=>by
    obtain⟨cs',h1,h2⟩:=hel i hi
    have hl1:cs'.length=1:=(World.cells?_some h1).2.1
    exact⟨cs',h1,hl1,zAlU hl1 h2⟩
   obtain⟨xs,rfl,hw⟩:=zAki λx hx=>(hqi x hx).2
   have hm:maxLen=9223372036854775807:=rfl
   refine⟨xs,?_,hs,hw⟩
   rw[zT2,zAd]at hq
   omega
theorem zAfw {W:World}(h:laidMetH Tryz.prog Rows.planMakesRow.laid W)(ho:W.ShapedOpen Tryz.prog):zYl W.heap/\zTe W.heap:=by
 refine⟨?_,(tables h ho).1⟩
 have h:laidMet Tryz.prog Rows.planMakesRow.laid W:=h
 obtain⟨ps,hv,_⟩:=h
 obtain⟨t,ms,h1,h2,hu⟩:=zAlL
 refine⟨⟨?_,?_⟩,⟨?_,zAle ho⟩,?_⟩
 ·obtain⟨cs,T,f,fuel,p,hb,hd⟩:=zAab (dd:=Rows.laid_strconv_ErrSyntax) zYT h1 hv (by repeat (first|exact List.Mem.head _|refine List.Mem.tail _ ?_))
  obtain⟨T',x,hcs⟩:=zAac hu hd
  exact⟨T',x,T,f,by rw[hb];congr 2;apply Array.ext';rw[hcs]⟩
 ·obtain⟨cs,T,f,fuel,p,hb,hd⟩:=zAab (dd:=Rows.laid_strconv_ErrRange) zAbc h2 hv (by repeat (first|exact List.Mem.head _|refine List.Mem.tail _ ?_))
  obtain⟨T',x,hcs⟩:=zAac hu hd
  exact⟨T',x,T,f,by rw[hb];congr 2;apply Array.ext';rw[hcs]⟩
 ·exact zXh (t:=zS7) (e:=zZL) (n:=20) zAcV (by kernel_rfl) (by kernel_rfl) (by kernel_rfl) (by kernel_rfl) (by kernel_rfl) hv (by repeat (first|exact List.Mem.head _|refine List.Mem.tail _ ?_))
 ·obtain⟨t,ht,hu,hc⟩:=zAlN
  obtain⟨cs,T,f,fuel,p,hb,hd⟩:=zAab (dd:=zAlK zZ9) zAlM ht hv (by repeat (first|exact List.Mem.head _|refine List.Mem.tail _ ?_))
  have:=zWn hu zOY zOy hc hd
  exact⟨T,f,by rw[hb];congr 2;apply Array.ext';rw[this]⟩
def zAbf (h:Array Obj):Array Obj:=lay (lay (zAbd h) zMN (flat Rows.laid_syngraph_sha_begin)) zJb (flat Rows.laid_syngraph_sha_table)
noncomputable def zRq (os:Os):World :=
 { World.holding Tryz.prog os ⟨#[],#[],[]⟩ with heap:=zAbf (World.holding Tryz.prog os ⟨#[],#[],[]⟩).heap }
end Go.Proofs.YticdfkoncnnmmaaGreatDoor.Came
