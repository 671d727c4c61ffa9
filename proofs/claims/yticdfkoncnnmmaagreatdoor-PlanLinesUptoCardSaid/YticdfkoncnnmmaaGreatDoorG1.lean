import Derived.Test.YticdfkoncnnmmaaGreatDoorGO
import Derived.Test.YticdfkoncnnmmaaGreatDoorGU
import Derived.Test.YticdfkoncnnmmaaGreatDoorGI
import Derived.Test.YticdfkoncnnmmaaGreatDoorGV
set_option linter.unusedSimpArgs false
set_option linter.unusedVariables false
set_option maxRecDepth 100000
namespace Go.Proofs.YticdfkoncnnmmaaGreatDoor
open Go.X Go.X.Diff
theorem zAe6:zBE prg zBd=some [str []].toArray:=by kernel_rfl
structure Dep where
 name:List UInt8
 want:zSO
structure Dep.wf (d:Dep):Prop where
 want:d.want.wf
 name:d.name.length<=9223372036854775807
def zFl (d:Dep):List Value:=str d.name::zFf d.want
def zQl:Dep:=⟨[],zVW⟩
theorem zP2:zQl.wf:=⟨zTb,by simp[zQl]⟩
theorem zEd {d:Dep}(h:d.wf):(zFl d).length=6:=by simp[zFl,zF8 h.want]
theorem zKZ {d:Dep}:∀ c∈zFl d,c.oneCell'=true:=by
 intro c hc
 rcases zAr.1 hc with rfl|hc
 ·rfl
 ·exact zT1 c hc
theorem zAjP:zBE prg zAL=some (zFl zQl).toArray:=by kernel_rfl
theorem zAlx:zMu prg zAL=some ([(0,1),(1,5)],(zFl zQl).toArray):=by kernel_rfl
theorem zZI {h:zAw}{q:Nat}{d:Dep}(a:At h q (zFl d))(hd:d.wf):ldN 5 h (Ptr q 1)=some (.agg (zFf d.want).toArray):=by
 obtain⟨T,a⟩:=a
 exact ldN_mid (A:=[str d.name]) (B:=zFf d.want) (C:=[]) (by rw[zAN];exact a) rfl (zF8 hd.want).symm
structure zHl where
 name:List UInt8
 sum:List UInt8
 size:Int
def zEg (f:zHl):List Value:=str f.name::(zBB f.sum++[.int .i64 f.size])
structure zHl.wf (f:zHl):Prop where
 name:f.name.length<=9223372036854775807
 sum:f.sum.length=32
 size : -9223372036854775808<=f.size/\f.size<=9223372036854775807
theorem zDN {f:zHl}(h:f.wf):(zEg f).length=34:=by simp[zEg,h.sum]
theorem zMQ {f:zHl}:∀ c∈zEg f,c.oneCell'=true:=by
 intro c hc
 rcases zAr.1 hc with rfl|hc
 ·rfl
 ·rcases zAt.1 hc with hc|hc
  ·exact bcells_one c hc
  ·simp at hc;subst hc;rfl
structure Man where
 name:List UInt8
 ver:Ver
 deps:List Dep
 conf:List Dep
 files:List zHl
structure Man.wf (m:Man):Prop where
 name:m.name.length<=9223372036854775807
 ver:m.ver.wf
 deps:∀ d∈m.deps,d.wf
 conf:∀ d∈m.conf,d.wf
 files:∀ f∈m.files,f.wf
def zGI (m:Man)(vd vc vf:Value):List Value:=str m.name::(zED m.ver++[vd,vc,vf])
theorem zBK {m:Man}{vd vc vf:Value}(h:m.wf):(zGI m vd vc vf).length=8:=by simp[zGI,zDL h.ver]
structure zMf (P:zA2)(H:zAw)(m:Man)(vd vc vf:Value):Prop where
 d:SlE 6 P H vd (m.deps.map zFl)
 c:SlE 6 P H vc (m.conf.map zFl)
 f:SlE 34 P H vf (m.files.map zEg)
 wf:m.wf
theorem zMf.keep {P S:zA2}{H H':zAw}{m:Man}{vd vc vf:Value}(h:zMf P H m vd vc vf)(k:Keep S H H')(hs:∀ b,P b->¬ S b):zMf P H' m vd vc vf :=
 ⟨h.d.keep k hs,h.c.keep k hs,h.f.keep k hs,h.wf⟩
theorem zMf.one {P:zA2}{H:zAw}{m:Man}{vd vc vf:Value}(h:zMf P H m vd vc vf):∀ c∈zGI m vd vc vf,c.oneCell'=true:=by
 intro c hc
 rcases zAr.1 hc with rfl|hc
 ·rfl
 rcases zAt.1 hc with hc|hc
 ·exact zMe c hc
 simp at hc
 rcases hc with rfl|rfl|rfl
 ·exact h.d.oneC
 ·exact h.c.oneC
 ·exact h.f.oneC
section
variable {h:zAw} {q:Nat} {m:Man} {vd vc vf:Value}
theorem zDd (a:At h q (zGI m vd vc vf)):ld1 h (Ptr q 0)=some (str m.name):=a.ld rfl
theorem zI7 (a:At h q (zGI m vd vc vf))(hm:m.wf):ldN 4 h (Ptr q 1)=some (.agg (zED m.ver).toArray):=by
 obtain⟨T,a⟩:=a
 exact ldN_mid (A:=[str m.name]) (B:=zED m.ver) (C:=[vd,vc,vf]) a rfl (zDL hm.ver).symm
theorem zHm (a:At h q (zGI m vd vc vf))(hm:m.wf):ld1 h (Ptr q 5)=some vd/\ld1 h (Ptr q 6)=some vc/\ld1 h (Ptr q 7)=some vf:=by
 have h4:=zDL hm.ver
 refine⟨a.ld ?_,a.ld ?_,a.ld ?_⟩<;>simp[zGI,zBb,h4]
theorem zT3 (a:At h q (zGI m vd vc vf))(hm:m.wf):ldN 8 h (Ptr q 0)=some (.agg (zGI m vd vc vf).toArray):=a.ldN (zBK hm)
end
def zOU (l:List (List UInt8))(i:Nat):Bool:=decide (i=0) || zWW (l.getD (i-1) []) (l.getD i [])
def zRw (l:List (List UInt8)):Bool:=(List.range l.length).all (zOU l)
theorem zZJ {l:List (List UInt8)}{i:Nat}(hi:i<l.length)(h:zOU l i=false):zRw l=false:=by
 unfold zRw
 rw[zDc];exact⟨i,by simpa using hi,by simp[h]⟩
theorem zW4 {l:List (List UInt8)}{i:Nat}(h:(List.range i).all (zOU l)=true)(hb:zOU l i=true):(List.range (i+1)).all (zOU l)=true:=by
 rw[List.range_succ,List.all_append,h];simp[hb]
theorem zAcy {H:zAw}{d:Dep}:zAz prg zEJ [.agg (zFl d).toArray] H λu H'=>u=str d.name/\Keep zAM H H':=by
 apply zM6
 unfold zLP
 simp only[zB1,zBa]
 have a:At (H.push (.cells (zFl d).toArray zAL (0,0))) H.size (zFl d):=At.push
 have d0:ld1 (H.push (.cells (zFl d).toArray zAL (0,0))) (Ptr H.size 0)=some (str d.name):=a.ld rfl
 rw[zBf,zAa,zAu,d0,zAa]
 exact⟨rfl,Keep.push⟩
theorem zAcz {P:zA2}{H:zAw}{v:Value}{l:List Dep}(hv:SlE 6 P H v (l.map zFl))(hw:∀ d∈l,d.wf)(hl:l.length<=1099511627776) :
  zAz prg zER [v,.func (.func zEJ) #[] #[]] H λu H'=>u = .bool (zRw (l.map (·.name)))/\Keep zAM H H':=by
 apply zIm
 unfold zGG
 have hlen:=hv.len
 rw[zAf]at hlen
 have hln:(l.map (·.name)).length=l.length:=by simp
 have hcall:∀ (d:Dep) (h:zAw) (k:zAn),(∀ h',Keep zAM h h'->k (str d.name) h')->zDM prg (.func (.func zEJ) #[] #[]) [.agg (zFl d).toArray] h k:=λd h k hk =>
  .inl ⟨zEJ,#[],#[],rfl,by kernel_rfl,zAz.mono (R:=λu H'=>u=str d.name/\Keep zAM h H') (zAcy (d:=d)) λu h' hR=>by obtain⟨rfl,k'⟩:=hR;exact hk h' k'⟩
 refine zNW (λ_ h=>zRw (l.map (·.name))=true/\Keep zAM H h) (λk hk=>?_) ?_
 ·refine zKa (λu h=>∃ i:Nat,1<=i/\u = .int .i64 (i:Nat)/\(List.range (min i l.length)).all (zOU (l.map (·.name)))=true/\Keep zAM H h) (λu _=>match u with | .int _ t=>l.length-t.toNat|_=>0) ⟨1,zAh _,rfl,?_,Keep.refl⟩ ?_
  ·by_cases h0:l.length=0
   ·rw[h0];rfl
   ·rw[zBI (by omega)];rfl
  rintro _ h ⟨i,hi,rfl,hall,kh⟩ k2 hk2
  have e1:zAC .no .lss (.int .i64 (i:Nat)) (.int .i64 (l.length:Nat))=some (.bool (decide (i<l.length))):=by
   rw[zAH];simp only[zC3];congr 2;rw[decide_eq_decide];omega
  rw[hlen,zAa,e1,zAa,zAl]
  by_cases hlt:i<l.length
  ·rw[if_pos (by simpa using hlt)]
   have hg:l[i]? = some l[i]:=zAj hlt
   have hg':l[i-1]? = some (l[i-1]'(by omega)):=zAj (by omega)
   have hvh:=hv.keep kh λ_ _=>id
   obtain⟨b,o,hix,hpt,_⟩:=hvh.at (i:=i) (x:=zFl l[i]) (by rw[zAp,hg];rfl)
   obtain⟨b',o',hix',hpt',_⟩:=hvh.at (i:=i-1) (x:=zFl (l[i-1]'(by omega))) (by rw[zAp,hg'];rfl)
   have hwd:=hw _ (zAG hlt)
   have hwd':=hw _ (zAG (show i-1<l.length by omega))
   have hra:zOU (l.map (·.name)) i=zWW (l[i-1]'(by omega)).name l[i].name:=by
    have h0:((l.map (·.name)).getD (i-1) [])=(l[i-1]'(by omega)).name:=by simp[List.getD,hg']
    have h1:((l.map (·.name)).getD i [])=l[i].name:=by simp[List.getD,hg]
    unfold zOU
    rw[h0,h1,decide_eq_false (by omega)];rfl
   generalize l[i]=d at *
   generalize (l[i-1]'(by omega))=d' at *
   have e2:zAC .no .sub (.int .i64 (i:Nat)) (.int .i64 1)=some (.int .i64 ((i-1:Nat):Int)):=by
    rw[zAH];simp only[zC3];rw[zB9 (by omega) (by omega)];congr 2;omega
   rw[e2,zAa,hix' .i64,zAa,hpt'.agg (zEd hwd'),zAa,hix .i64,zAa,hpt.agg (zEd hwd),zAa]
   refine hcall d' h _ λh5 k5=>?_
   refine⟨(hpt.keep k5 id).agg (zEd hwd),?_⟩
   refine hcall d h5 _ λh6 k6=>?_
   have hge:zAC .no .geq (str d'.name) (str d.name)=some (.bool (!zWW d'.name d.name)):=by rw[zGn];exact zZo
   rw[hge,zAa,zAl]
   have kk:=kh.trans (k5.trans k6)
   cases hb:zWW d'.name d.name
   ·rw[if_pos (show(!false)=true from rfl)]
    exact⟨by rw[zZJ (i:=i) (by rw[hln];exact hlt) (by rw[hra,hb])],kk⟩
   ·rw[if_neg (by decide),zBV (by omega),zAa]
    refine hk2 _ _ ⟨i+1,by omega,rfl,?_,kk⟩ (by show l.length-(i+1)<l.length-i;omega)
    rw[zBI (by omega)]at hall ⊢
    exact zW4 hall (by rw[hra,hb])
  ·rw[if_neg (by simpa using hlt)]
   refine hk _ _ ⟨?_,kh⟩
   rw[Nat.min_eq_right (by omega)]at hall
   unfold zRw
   rw[hln];exact hall
 ·rintro _ h ⟨h1,h2⟩
  exact⟨by rw[h1],h2⟩
def zSh (own:List UInt8)(d:Dep):Bool:=zJi d.name && !decide (d.name=own)&&zHX d.want
def zOd (own:List UInt8)(l:List Dep):Bool:=l.all (zSh own)&&decide (l.length<=16)&&zRw (l.map (·.name))
theorem zAaJ {own:List UInt8}{l:List Dep}{d:Dep}(hd:d∈l)(h:zSh own d=false):zOd own l=false:=by
 unfold zOd
 rw[zDc.2 ⟨d,hd,by simp[h]⟩];rfl
theorem zAgr {P:zA2}{H:zAw}{m:Man}{vd vc vf v:Value}{l:List Dep}(hv:SlE 6 P H v (l.map zFl))(hw:∀ d∈l,d.wf)(hO:zQR H)(hl:l.length<=1099511627776) :
  zAz prg zE0 [.agg (zGI m vd vc vf).toArray,v] H λu H'=>u = .bool (zOd m.name l)/\Keep zAM H H':=by
 apply zKK
 unfold zIF
 have hlen:=hv.len
 rw[zAf]at hlen
 simp only[zB1,zBa]
 generalize hH1:H.push (.cells (zGI m vd vc vf).toArray zAi (0,0))=H1
 have k1:Keep zAM H H1:=by rw[<- hH1];exact Keep.push
 have a1:At H1 H.size (zGI m vd vc vf):=by rw[<- hH1];exact At.push
 have s1:H1.size=H.size+1:=by rw[<- hH1];simp
 refine zNW (λ_ h=>l.all (zSh m.name)=true/\Keep zAM H1 h) (λk hk=>?_) ?_
 ·rw[hlen,zAa]
  refine zKa (λu h=>∃ i:Nat,i<=l.length/\u = .int .i64 (i:Nat)/\(l.take i).all (zSh m.name)=true/\Keep zAM H1 h) (λu _=>match u with | .int _ t=>l.length-t.toNat|_=>0) ⟨0,zAA _,rfl,rfl,Keep.refl⟩ ?_
  rintro _ h ⟨i,hi,rfl,hall,kh⟩ k2 hk2
  have e1:zAC .no .lss (.int .i64 (i:Nat)) (.int .i64 (l.length:Nat))=some (.bool (decide (i<l.length))):=by
   rw[zAH];simp only[zC3];congr 2;rw[decide_eq_decide];omega
  rw[e1,zAa,zAl]
  by_cases hlt:i<l.length
  ·rw[if_pos (by simpa using hlt)]
   have hg:l[i]? = some l[i]:=zAj hlt
   have hvh:=hv.keep (k1.trans kh) λ_ _=>id
   obtain⟨b,o,hix,hpt,_⟩:=hvh.at (i:=i) (x:=zFl l[i]) (by rw[zAp,hg];rfl)
   have hwd:=hw _ (zAG hlt)
   have hmem:l[i]∈l:=zAG hlt
   have hnext:zSh m.name l[i]=true->(l.take (i+1)).all (zSh m.name)=true:=λhb=>by
    rw[zAI,hg,List.all_append,hall];simp[hb]
   generalize l[i]=d at *
   rw[hix .i64,zAa,hpt.agg (zEd hwd),zAa]
   simp only[zAjP,zBa]
   generalize hH6:h.push (.cells (zFl zQl).toArray zAL (0,0))=h6
   have k6:Keep zAM h h6:=by rw[<- hH6];exact Keep.push
   have a6:At h6 h.size (zFl zQl):=by rw[<- hH6];exact At.push
   obtain⟨h7,st7,a7,k7⟩:=a6.st (n:=6) (ds:=zFl d) (zEd zP2) (zEd hwd) zKZ
   have g1:=kh.1
   have k17:Keep zAM H1 h7:=(kh.trans k6).fresh k7 λb hb=>by omega
   have d0:ld1 h7 (Ptr h.size 0)=some (str d.name):=a7.ld rfl
   rw[st7,zAV,zBf,zAa,zAu,d0,zAa]
   refine zAJ (zZn hwd.name) ?_
   rintro _ h8 ⟨rfl,k8⟩
   have a8:=a7.keep k8 id
   have k18:=k17.trans k8
   have m8:=zDd (a1.keep k18 id)
   have d8:ld1 h8 (Ptr h.size 0)=some (str d.name):=a8.ld rfl
   have w8:=zZI a8 hwd
   have hO8:=hO.keep (k1.trans k18) λ_ h=>h.elim
   have eqn:zAC .no .eql (str d.name) (str m.name)=some (.bool (decide (d.name=m.name))):=zDG
   have bad:zSh m.name d=false->∀ h',Keep zAM h8 h'->Value.bool false = .bool (zOd m.name l)/\Keep zAM H h':=λhb h' k'=>⟨by rw[zAaJ hmem hb],k1.trans (k18.trans k')⟩
   cases hn:zJi d.name
   ·simp only[zBf,zAu,zAg,zA8,zAe,zAd,zAO,zAT,zAv,zAl,zAa,if_true,if_false,zAb,zAc,decide_true,decide_false,reduceCtorEq,zBQ,zEH,zEI,zEE,zEF,zEG,zBq,zA9]
    exact bad (by simp[zSh,hn]) _ Keep.refl
   cases hq:decide (d.name=m.name)
   ·simp only[zBf,zAu,zAg,d8,m8,eqn,hq,w8,zA8,zAe,zAd,zAO,zAT,zAv,zAl,zAa,if_true,if_false,zAb,zAc,decide_true,decide_false,reduceCtorEq,zBQ,zEH,zEI,zEE,zEF,zEG,zBq,zA9]
    refine zAJ (zMP hwd.want hO8) ?_
    rintro _ h9 ⟨rfl,k9⟩
    cases hk9:zHX d.want
    ·simp only[zA8,zAe,zAd,zAO,zAT,zAv,zAl,zAa,if_true,if_false,zAb,zAc,decide_true,decide_false,reduceCtorEq,zBQ,zEH,zEI,zEE,zEF,zEG,zBq,zA9]
     exact bad (by simp[zSh,hk9]) _ k9
    ·simp only[zA8,zAe,zAd,zAO,zAT,zAv,zAl,zAa,if_true,if_false,zAb,zAc,decide_true,decide_false,reduceCtorEq,zBQ,zEH,zEI,zEE,zEF,zEG,zBq,zA9]
     rw[zBV (by omega),zAa]
     exact hk2 _ _ ⟨i+1,by omega,rfl,hnext (by simp[zSh,hn,hk9,of_decide_eq_false hq]),k18.trans k9⟩ (by show l.length-(i+1)<l.length-i;omega)
   ·simp only[zBf,zAu,zAg,d8,m8,eqn,hq,zA8,zAe,zAd,zAO,zAT,zAv,zAl,zAa,if_true,if_false,zAb,zAc,decide_true,decide_false,reduceCtorEq,zBQ,zEH,zEI,zEE,zEF,zEG,zBq,zA9]
    exact bad (by simp[zSh,of_decide_eq_true hq]) _ Keep.refl
  ·rw[if_neg (by simpa using hlt)]
   refine hk _ _ ⟨?_,kh⟩
   rwa [zAs (by omega)]at hall
 ·rintro _ h ⟨hall,kh⟩
  have e3:zAC .no .leq (.int .i64 (l.length:Nat)) (.int .i64 16)=some (.bool (decide (l.length<=16))):=by
   rw[zAH];simp only[zC3];congr 2;rw[decide_eq_decide];omega
  have kk:=k1.trans kh
  rw[hlen,zAa,e3,zAa]
  unfold zOd
  rw[hall]
  cases h16:decide (l.length<=16)
  ·simp only[zA8,zAe,zAd,zAO,zAT,zAv,zAl,zAa,if_true,if_false,zAb,zAc,decide_true,decide_false,reduceCtorEq,zBQ,zEH,zEI,zEE,zEF,zEG,zBq,zA9,zBh,zA1]
   exact⟨by trivial,kk⟩
  ·simp only[zA8,zAe,zAd,zAO,zAT,zAv,zAl,zAa,if_true,if_false,zAb,zAc,decide_true,decide_false,reduceCtorEq,zBQ,zEH,zEI,zEE,zEF,zEG,zBq,zA9,zBh]
   refine zAJ (zAcz (hv.keep kk λ_ _=>id) hw hl) ?_
   rintro _ h2 ⟨rfl,k2⟩
   simp only[zA8,zAe,zAd,zAO,zAT,zAv,zAl,zAa,if_true,if_false,zAb,zAc,decide_true,decide_false,reduceCtorEq,zBQ,zEH,zEI,zEE,zEF,zEG,zBq,zA9]
   exact⟨by trivial,kk.trans k2⟩
def zYr (m:Man):Bool:=zJi m.name&&zGl m.ver&&zOd m.name m.deps&&zOd m.name m.conf
def zT4 (l:List (List UInt8)):List UInt8:=zLE [32] l++[10]
theorem zAhY {h:zAw}{q:Nat}{l:List (List UInt8)}{n:Nat}(a:At h q (l.map str))(hn:n=l.length):SlE 1 (· = q) h (.slice (some ⟨q,0,none⟩) n n) (zKl l):=by
 subst hn
 exact⟨⟨_,l.length,by rw[zH6],by rw[zH6];exact zAh _,.inr ⟨q,0,rfl,rfl,by rw[zH1];exact a.pt⟩⟩,zL3,zK1 λv hv=>by obtain⟨x,_,rfl⟩:=zAo.1 hv;rfl⟩
theorem zZK (s:List UInt8):∀ l:List (List UInt8),(zLE s l).length<=total l+l.length*s.length
 | []=>by simp[zLE]
 | x::xs=>by
  have:∀ ys:List (List UInt8),((ys.map (s ++ ·)).flatten).length=total ys+ys.length*s.length:=by
   intro ys
   induction ys with
   | nil=>simp[total]
   | cons y ys ih =>
    rw[zAW,zA7,zAq,zAq,ih]
    unfold total
    rw[zA7,zAq,zAQ,zCx];omega
  unfold zLE
  rw[zAq,this]
  unfold total
  rw[zA7,zAq,zAQ,zCx];omega
theorem zAcA {H:zAw}{q n:Nat}{l:List (List UInt8)}(a:At H q (l.map str))(hn:n=l.length)(h4:l.length<=100)(ht:total l<=1099511627776) :
  zAz prg zES [.slice (some ⟨q,0,none⟩) n n] H λu H'=>u=str (zT4 l)/\Keep zAM H H':=by
 apply zO8
 unfold zOS
 refine zAJ (zAck (sep:=[32]) (zAhY a hn) (λb hb=>by subst hb;exact a.lt) (by omega) (by simp) ht) ?_
 rintro _ h1 ⟨rfl,k1⟩
 have hj:=zZK [32] l
 have e:zAC .no .add (str (zLE [32] l)) (.string ⟨#[10]⟩)=some (str (zLE [32] l++[10])):=zTX (b:=[10]) (by simp at hj ⊢;omega)
 rw[e,zAa]
 exact⟨rfl,k1⟩
theorem zAmU {a b c:ByteArray}:zGf prg zBd 3 [(0,.string a),(1,.string b),(2,.string c)]=some #[.string a,.string b,.string c]:=by kernel_rfl
def zIS:List UInt8:=[112,97,99,107,97,103,101]
def zW5:List UInt8:=[110,101,101,100,115]
def zTc:List UInt8:=[114,101,102,117,115,101,115]
def zYs (w:List UInt8)(d:Dep):List UInt8:=zT4 [w,d.name,zT2 d.want]
def zAe7 (m:Man):List UInt8:=zT4 [zIS,m.name,zEf m.ver]++((m.deps.map (zYs zW5)).flatten++(m.conf.map (zYs zTc)).flatten)
theorem zP3 {l:List UInt8}(h:zJi l=true):l.length<=32:=by
 unfold zJi at h
 simp only[zAk,decide_eq_true_eq]at h
 exact h.1.1.2
theorem zRx {l:List (List UInt8)}:(zT4 l).length<=total l+l.length+1:=by
 have:=zZK [32] l
 unfold zT4
 rw[zAq];simp at this ⊢;omega
theorem zW6 {w:zSO}(h:w.wf):(zT2 w).length<=42:=by
 unfold zT2
 cases hok:zHX w
 ·simp
 cases hs:decide (w.op=[42])
 ·have hm:=(zW3 hok hs).1
  have:∀ x∈zAeU,x.length<=2:=by decide
  have h1:=this _ hm
  have h2:=zHV (v:=w.ver) h.ver.p3
  simp only[cond_true,cond_false,zAq];omega
 ·simp
theorem zP4 {w:List UInt8}{d:Dep}(hw:w.length<=10)(hd:d.wf)(hn:zJi d.name=true):(zYs w d).length<=100:=by
 have h1:=zP3 hn
 have h2:=zW6 hd.want
 have:=zRx (l:=[w,d.name,zT2 d.want])
 unfold zYs
 simp[total]at this ⊢;omega
theorem zPI {α:Type}{f:α->List UInt8}{n:Nat}:∀ {l:List α},(∀ x∈l,(f x).length<=n)->(l.map f).flatten.length<=l.length*n
 | [],_=>by simp
 | x::l,h=>by
  have ih:=zPI (f:=f) (n:=n) (l:=l) λy hy=>h y (zCW _ hy)
  have:=h x (List.mem_cons_self ..)
  rw[zAW,zA7,zAq,zAQ,zCx];omega
theorem zAe8 {a b c:List UInt8}:zGf prg zBd 3 [(0,str a),(1,str b),(2,str c)]=some ([a,b,c].map str).toArray:=zAmU
theorem zW7 {P:zA2}{p:Nat}{H:zAw}{v:Value}{l:List Dep}{w acc:List UInt8}{k:zAn}
  (hv:SlE 6 P H v (l.map zFl)) (hP:∀ b,P b->b<p) (hb:BAt (p < ·) p H acc) (hp:p<H.size) (hw:∀ d∈l,d.wf) (hok:∀ d∈l,zJi d.name=true) (hl:l.length<=1048576) (hw8:w.length<=10) (hacc:acc.length<=1099511627776)
  (hO:zQR H) (hT:zWi H) (hN:NG<=p)
  (hk:∀ u h,BAt (p < ·) p h (acc++(l.map (zYs w)).flatten)->Keep (p <= ·) H h->k u h) :
  L1 (λk10=>λt25_2 h11 =>
    Mpu (zAC .no .lss t25_2 (.int .i64 (l.length:Nat))) λt26 =>
    Mcd t26 (
     Mpu (ixS 6 v t25_2) λt27 =>
     Mpu (ldN 6 h11 t27) λt28 =>
     zDA h11 zAL (zBE prg zAL) λt6 h12 =>
     Mwr (stN 6 h12 t6 t28) λh13 =>
     Mpu (fld 0 t6) λt29 =>
     Mpu (ld1 h13 t29) λt30 =>
     Mpu (fld 1 t6) λt31 =>
     Mpu (ldN 5 h13 t31) λt32 =>
     zA3 prg zFx [t32] h13 λt33 h14 =>
     Mre [(ld1 h14 t29,t30)] (
     zD1 h14 zBd 3 (zGf prg zBd 3 [(0,str w),(1,t30),(2,t33)]) λt34 h15 =>
     zA3 prg zES [t34] h15 λt35 h16 =>
     zA3 prg zBW [Ptr p 0,t35] h16 λ_ h17 =>
     Mpu (zAC .no .add t25_2 (.int .i64 1)) λt37 =>
     k10 t37 h17)) (
     k t25_2 h11)) ((.int .i64 0)) H:=by
 refine zKa (λu h=>∃ i:Nat,i<=l.length/\u = .int .i64 (i:Nat)/\BAt (p < ·) p h (acc++((l.take i).map (zYs w)).flatten)/\Keep (p <= ·) H h) (λu _=>match u with | .int _ t=>l.length-t.toNat|_=>0) ⟨0,zAA _,rfl,by simpa using hb,Keep.refl⟩ ?_
 rintro _ h ⟨i,hi,rfl,hbi,kh⟩ k2 hk2
 have e1:zAC .no .lss (.int .i64 (i:Nat)) (.int .i64 (l.length:Nat))=some (.bool (decide (i<l.length))):=by
  rw[zAH];simp only[zC3];congr 2;rw[decide_eq_decide];omega
 rw[e1,zAa,zAl]
 by_cases hlt:i<l.length
 ·rw[if_pos (by simpa using hlt)]
  have hg:l[i]? = some l[i]:=zAj hlt
  obtain⟨b,o,hix,hpt,_⟩:=(hv.keep kh λb hb=>by have:=hP b hb;omega).at (i:=i) (x:=zFl l[i]) (by rw[zAp,hg];rfl)
  have hwd:=hw _ (zAG hlt)
  have hnd:=hok _ (zAG hlt)
  have htk:((l.take (i+1)).map (zYs w)).flatten=((l.take i).map (zYs w)).flatten++zYs w l[i]:=by
   rw[zAI,hg,zAE,zBp]
   simp only[Option.toList_some,zAW,zCm,zA7,zCj,zAN]
  generalize l[i]=d at *
  rw[hix .i64,zAa,hpt.agg (zEd hwd),zAa]
  simp only[zAjP,zBa]
  generalize hH6:h.push (.cells (zFl zQl).toArray zAL (0,0))=h6
  have k6:Keep zAM h h6:=by rw[<- hH6];exact Keep.push
  have a6:At h6 h.size (zFl zQl):=by rw[<- hH6];exact At.push
  obtain⟨h7,st7,a7,k7⟩:=a6.st (n:=6) (ds:=zFl d) (zEd zP2) (zEd hwd) zKZ
  have g1:=kh.1
  have g6:=k6.1
  have k17:Keep zAM h h7:=k6.fresh k7 λb hb=>by omega
  have kH7:Keep (p <= ·) H h7:=kh.trans (k17.mono λ_ _ h=>h.elim)
  have d0:ld1 h7 (Ptr h.size 0)=some (str d.name):=a7.ld rfl
  rw[st7,zAV,zBf,zAa,zAu,d0,zAa,zBf,zAa,zAg,zZI a7 hwd,zAa]
  refine zAJ (zAaG hwd.want (hO.keep kH7 λb hb=>by omega) (hT.keep kH7 λb hb=>by omega)) ?_
  rintro _ h8 ⟨rfl,k8⟩
  have d8:ld1 h8 (Ptr h.size 0)=some (str d.name):=(a7.keep k8 id).ld rfl
  refine⟨d8,?_⟩
  simp only[zAe8,zCh]
  generalize hH9:h8.push (.cells ([w,d.name,zT2 d.want].map str).toArray zBd (0,0))=h9
  have k9:Keep zAM h8 h9:=by rw[<- hH9];exact Keep.push
  have a9:At h9 h8.size ([w,d.name,zT2 d.want].map str):=by rw[<- hH9];exact At.push
  have l1:=zP3 hnd
  have l2:=zW6 hwd.want
  refine zAJ (zAcA a9 rfl (by simp) (by simp[total];omega)) ?_
  rintro _ h10 ⟨rfl,k10⟩
  have kk:Keep zAM h h10:=k17.trans (k8.trans (k9.trans k10))
  have hb10:=hbi.keep kk λ_ _=>id
  have hdl:(zT4 [w,d.name,zT2 d.want]).length<=100:=zP4 hw8 hwd hnd
  have hfl:=zPI (f:=zYs w) (n:=100) (l:=l.take i) λx hx=>zP4 hw8 (hw x (zBs hx)) (hok x (zBs hx))
  have hti:(l.take i).length<=1048576:=by rw[zAZ];omega
  have hsz:=kk.1
  refine zAJ (zH5 hb10 (by
   rw[zAq]
   have:(l.take i).length*100<=1048576*100:=zBo _ hti
   omega) λb hb=>by show p<b;omega) ?_
  rintro _ h11 ⟨rfl,hb11,k11⟩
  rw[zBV (by omega),zAa]
  refine hk2 _ _ ⟨i+1,by omega,rfl,?_,?_⟩ (by show l.length-(i+1)<l.length-i;omega)
  ·rw[htk,<- zBc];exact hb11
  ·exact(kh.trans (kk.mono λ_ _ h=>h.elim)).trans (k11.mono λb _ hb=>by rcases hb with hb|hb<;>omega)
 ·rw[if_neg (by simpa using hlt)]
  rw[zAs (by omega)]at hbi
  exact hk _ _ hbi kh
structure zAe9 (q:Nat)(Fd Fc Ff:zA2)(m:Man)(h:zAw):Prop where
 ex:∃ vd vc vf,At h q (zGI m vd vc vf)/\BufE 6 Fd h vd (m.deps.map zFl)/\BufE 6 Fc h vc (m.conf.map zFl)/\BufE 34 Ff h vf (m.files.map zEg)
 nq:¬ Fd q/\¬ Fc q/\¬ Ff q
 dis:∀ b,¬ (Fd b/\Fc b)/\¬ (Fd b/\Ff b)/\¬ (Fc b/\Ff b)
 lt:∀ b,Fd b\/Fc b\/Ff b->b<h.size
 wf:m.wf
theorem zAe9.keep {q:Nat}{Fd Fc Ff S:zA2}{m:Man}{h h':zAw}(a:zAe9 q Fd Fc Ff m h)(k:Keep S h h')(hs:∀ b,b=q\/Fd b\/Fc b\/Ff b->¬ S b):zAe9 q Fd Fc Ff m h':=by
 obtain⟨vd,vc,vf,h1,h2,h3,h4⟩:=a.ex
 exact⟨⟨vd,vc,vf,h1.keep k (hs q (.inl rfl)),h2.keep k λb hb=>hs b (.inr (.inl hb)),h3.keep k λb hb=>hs b (.inr (.inr (.inl hb))),h4.keep k λb hb=>hs b (.inr (.inr (.inr hb)))⟩,a.nq,a.dis,λb hb=>zAS (a.lt b hb) k.1,a.wf⟩
def zAmm (s:List UInt8)(v:Ver):Prop:=(v.wf/\zGl v=true/\zEf v=s)\/((∀ x:Ver,x.p.length=3->zGl x=true->zEf x≠s)/\v=zEQ)
theorem zAmm.wf {s:List UInt8}{v:Ver}(h:zAmm s v):v.wf:=by
 rcases h with h|⟨_,rfl⟩
 ·exact h.1
 ·exact zGZ
def zAgs (s:List UInt8)(w:zSO):Prop:=(w.wf/\zHX w=true/\zT2 w=s)\/((∀ x:zSO,x.wf->zHX x=true->zT2 x≠s)/\w=zVW)
theorem zAgs.wf {s:List UInt8}{w:zSO}(h:zAgs s w):w.wf:=by
 rcases h with h|⟨_,rfl⟩
 ·exact h.1
 ·exact zTb
theorem Pt.closed {n0:Nat}{h h':zAw}{b o:Nat}{cs:List Value}(p:Pt h b o cs)(c:zOI n0 h h'):Pt h' b o cs:=by
 obtain⟨x,T,f,hb,h1⟩:=p
 exact⟨x,T,f,c.2.2 _ _ hb (λds e=>by cases e),h1⟩
theorem SlE.closed {n n0:Nat}{P:zA2}{h h':zAw}{v:Value}{xs:List (List Value)}(s:SlE n P h v xs)(c:zOI n0 h h'):SlE n P h' v xs:=by
 obtain⟨⟨a,k,h1,h2,h3⟩,h4,h5⟩:=s
 refine⟨⟨a,k,h1,h2,?_⟩,h4,h5⟩
 rcases h3 with h3|⟨b,o,e,hb,hp⟩
 ·exact .inl h3
 ·exact .inr ⟨b,o,e,hb,Pt.closed hp c⟩
theorem zMf.closed {P:zA2}{n0:Nat}{h h':zAw}{m:Man}{vd vc vf:Value}(v:zMf P h m vd vc vf)(c:zOI n0 h h'):zMf P h' m vd vc vf :=
 ⟨SlE.closed v.d c,SlE.closed v.c c,SlE.closed v.f c,v.wf⟩
def zAjQ:Man:=⟨[],zEQ,[],[],[]⟩
def zCq:Value := .slice none 0 0
def zAgt:List UInt8:=[104,101,108,108,111]
def mA1:Man:=⟨zAgt,⟨[1,0,0],[]⟩,[],[],[]⟩
def zAly:Dep:=⟨[108,105,98,99],⟨[94],⟨[2,1,0],[]⟩⟩⟩
def mA2:Man:=⟨zAgt,⟨[1,0,0],[]⟩,[zAly],[],[]⟩
def ms:Nat->Man
 | 0=>zAjQ
 | 1=>mA1
 | _=>mA2
structure PA (n0 q2 q n5:Nat)(H:zAw)(j:Nat)(h:zAw):Prop where
 r:At h q2 (zGI zAjQ zCq zCq zCq)
 m:∃ Fd Fc,zAe9 q Fd Fc (λ_=>False) (ms j) h/\∀ b,Fd b\/Fc b->n5+2<=b
 k:Keep zAM H h
theorem PA.keep {n0 q2 q n5:Nat}{H:zAw}{j:Nat}{h h':zAw}{S:zA2}(p:PA n0 q2 q n5 H j h)(k:Keep S h h')(hs:∀ b,S b->H.size<=b/\b≠q2/\b≠q/\b<n5+2):PA n0 q2 q n5 H j h':=by
 obtain⟨Fd,Fc,h1,h2⟩:=p.m
 refine⟨p.r.keep k λh=>(hs _ h).2.1 rfl,⟨Fd,Fc,h1.keep k λb hb hS=>?_,h2⟩,p.k.fresh k λb hb=>(hs b hb).1⟩
 rcases hb with rfl|hb|hb|hb
 ·exact(hs _ hS).2.2.1 rfl
 ·have:=h2 b (.inl hb);have:=(hs b hS).2.2.2;omega
 ·have:=h2 b (.inr hb);have:=(hs b hS).2.2.2;omega
 ·exact hb
theorem zAhZ {a:Option Addr}{n c:Nat}:zGf prg zEr 1 [(0,.slice a n c)]=some #[.slice a n c]:=by kernel_rfl
theorem zAcB {Pd:zA2}{H:zAw}{v:Value}{m:List UInt8}(hx:Sl Pd H v m)(hT:zTa H)(hPd:∀ b,Pd b->b<H.size)(hl:m.length<=1099511627776) :
  zAz prg zRZ [v] H λu H'=>u=bv (zAch (6::m))/\Keep zAM H H':=by
 apply zR8
 unfold zTP
 obtain⟨va,vc,hve,_⟩:=hx.sl
 simp only[zZi,zBa,hve,zAhZ,zCh]
 rw[<- hve]
 generalize hH2:H.push (.cells (zBB zPF).toArray zCf (0,0))=H2
 have k2:Keep zAM H H2:=by rw[<- hH2];exact Keep.push
 have hs2:H2.size=H.size+1:=by rw[<- hH2];simp
 have hr2:H2[H.size]? = some (.cells (zBB zPF).toArray zCf (0,0)):=by rw[<- hH2];exact zCa
 generalize hH3:H2.push (.cells #[v] zEr (0,0))=H3
 have k3:Keep zAM H2 H3:=by rw[<- hH3];exact Keep.push
 have hs3:H3.size=H2.size+1:=by rw[<- hH3];simp
 have hv3:H3[H2.size]? = some (.cells #[v] zEr (0,0)):=by rw[<- hH3];exact zCa
 have kk:Keep zAM H H3:=k2.trans k3
 have sv:Sl Pd H3 v m:=hx.keep kk λ_ _=>id
 have hvv:SlE 1 (· = H2.size) H3 (.slice (some ⟨H2.size,0,none⟩) 1 1) (zGD ([(v,m)].map (·.1))):=by
  refine⟨⟨_,1,rfl,zAh _,.inr ⟨H2.size,0,rfl,rfl,?_⟩⟩,zL3,zU2 (P:=Pd) (H:=H3) ?_⟩
  ·rw[zH1];exact Pt.of hv3
  ·intro x hx;simp at hx;subst hx;exact sv
 refine zAJ (zWT (Pd:=Pd) hvv ?_ (hT.keep kk λ_ h=>h.elim) (λb hb=>by omega) (λb hb=>?_) ?_ (by simp)) ?_
 ·intro x hx;simp at hx;subst hx;exact sv
 ·have:=hPd b hb;omega
 ·simp[zJV];omega
 rintro _ H4 ⟨rfl,k4⟩
 have hr4:=(k3.trans k4).at hr2 id
 have e6:(bO 6::zJV [(v,m)])=6::m:=by simp[zJV];rfl
 rw[zRe hr4 (n:=32) rfl zGY,zAV,zPq (zBm hr4) zGY,zAa]
 refine⟨by rw[e6],?_⟩
 have:=(kk.trans k4)
 refine⟨by simp;exact this.1,λi hi _=>?_⟩
 rw[zAD,if_neg (by omega),this.2 i hi id]
def zVZ:zHl:=⟨[],List.replicate 32 0,0⟩
theorem zV0:zVZ.wf:=⟨by simp[zVZ],by simp[zVZ],by simp[zVZ]⟩
theorem zAcC:zBE prg zBn=some (zEg zVZ).toArray:=by kernel_rfl
section
variable {h:zAw} {b o:Nat} {f:zHl}
theorem zAh0 (a:Pt h b o (zEg f)):ld1 h (Ptr b o)=some (str f.name):=a.cell0 rfl
theorem zYt (a:Pt h b o (zEg f))(hf:f.wf):ld1 h (Ptr b (o+33))=some (.int .i64 f.size):=a.cell (i:=33) (by
 unfold zEg
 rw[zC1,zBb (by simp[hf.sum])]
 simp[hf.sum])
theorem zAcD (a:Pt h b o (zEg f))(hf:f.wf):ldN 32 h (Ptr b (o+1))=some (bv f.sum):=by
 have:Pt h b (o+1) (zBB f.sum):=Pt.mid (A:=[str f.name]) (B:=zBB f.sum) (C:=[.int .i64 f.size]) (o:=o) (by simpa [zEg] using a) (by simp)
 exact this.agg (by simp[hf.sum])
end
structure BSS (P Q:zA2)(H:zAw)(v:Value)(xs:List (Value×List UInt8)):Prop where
 sl:SlE 1 P H v (zGD (xs.map (·.1)))
 el:∀ x∈xs,Sl Q H x.1 x.2
theorem BSS.keep {P Q S:zA2}{H H':zAw}{v:Value}{xs:List (Value×List UInt8)}(h:BSS P Q H v xs)(k:Keep S H H')(h1:∀ b,P b->¬ S b)(h2:∀ b,Q b->¬ S b):BSS P Q H' v xs :=
 ⟨h.sl.keep k h1,λx hx=>(h.el x hx).keep k h2⟩
theorem BSS.len {P Q:zA2}{H:zAw}{v:Value}{xs:List (Value×List UInt8)}(h:BSS P Q H v xs):zDD v=some (.int .i64 xs.length):=by have:=h.sl.len;simpa using this
theorem BSS.at {P Q:zA2}{H:zAw}{v:Value}{xs:List (Value×List UInt8)}(h:BSS P Q H v xs){i:Nat}{x:Value×List UInt8}(hi:xs[i]? = some x):Sl Q H x.1 x.2/\∃ p,(∀ k,ixS 1 v (.int k i)=some p)/\ld1 H p=some x.1:=by
 obtain⟨b,o,hix,hpt,_⟩:=h.sl.at (i:=i) (x:=[x.1]) (zNV (by simp[hi]))
 exact⟨h.el x (zAB hi),Ptr b o,hix,hpt.cell0 rfl⟩
def zW8 (f:zHl)(b:List UInt8):Bool:=decide ((b.length:Int)=f.size)&&decide (zAch (6::b)=f.sum)
def zGe:List zHl->List (List UInt8)->Bool
 | f::fs,b::bs=>zW8 f b&&zGe fs bs
 | [],[]=>true
 | _,_=>false
theorem zW9:∀ {fs:List zHl} {bs:List (List UInt8)} {i:Nat} {f:zHl} {b:List UInt8},fs[i]? = some f->bs[i]? = some b->zGe (fs.take (i+1)) (bs.take (i+1))=(zGe (fs.take i) (bs.take i)&&zW8 f b)
 | [],_,i,f,b,h,_=>by simp at h
 | _::_,[],i,f,b,_,h=>by simp at h
 | g::fs,c::bs,0,f,b,h1,h2=>by
  simp at h1 h2;subst h1 h2
  simp[zGe]
 | g::fs,c::bs,i+1,f,b,h1,h2=>by
  have ih:=zW9 (fs:=fs) (bs:=bs) (i:=i) (f:=f) (b:=b) (by simpa using h1) (by simpa using h2)
  rw[zBT,zBT,zGe,ih,zBT,zBT,zGe,Bool.and_assoc]
theorem zZL:∀ {fs:List zHl} {bs:List (List UInt8)} {i:Nat} {f:zHl} {b:List UInt8},fs[i]? = some f->bs[i]? = some b->zW8 f b=false->zGe fs bs=false
 | [],_,i,f,b,h,_,_=>by simp at h
 | _::_,[],i,f,b,_,h,_=>by simp at h
 | g::fs,c::bs,0,f,b,h1,h2,h3=>by
  simp at h1 h2;subst h1 h2
  simp[zGe,h3]
 | g::fs,c::bs,i+1,f,b,h1,h2,h3=>by
  have ih:=zZL (fs:=fs) (bs:=bs) (i:=i) (f:=f) (b:=b) (by simpa using h1) (by simpa using h2) h3
  rw[zGe,ih,zB8]
theorem zZM:∀ {fs:List zHl} {bs:List (List UInt8)},bs.length≠fs.length->zGe fs bs=false
 | [],[],h=>absurd rfl h
 | [],_::_,_=>rfl
 | _::_,[],_=>rfl
 | f::fs,b::bs,h=>by
  rw[zGe,zZM (fs:=fs) (bs:=bs) (λe=>h (by simp[e])),zB8]
theorem zYu {n:Nat}{s:Int}:zAC .no .neq (.int .i64 (n:Nat)) (.int .i64 s)=some (.bool (!decide ((n:Int)=s))):=by
 rw[zAH];simp only[zC3];congr 2
theorem zAh1 {P Q R:zA2}{H:zAw}{m:Man}{vd vc vf v:Value}{xs:List (Value×List UInt8)}(hv:zMf P H m vd vc vf)(hx:BSS Q R H v xs)(hR:∀ b,R b->b<H.size)(hl:xs.length=m.files.length->xs.length<=1048576)(hb:∀ (i:Nat) (x:Value×List UInt8) (f:zHl),xs[i]? = some x->m.files[i]? = some f->(x.2.length:Int)=f.size->x.2.length<=1048576)(hT:zTa H) :
  zAz prg zGp [.agg (zGI m vd vc vf).toArray,v] H λu H'=>u = .bool (zGe m.files (xs.map (·.2)))/\Keep zAM H H':=by
 apply zKI
 unfold zID
 simp only[zB1,zBa]
 generalize hH1:H.push (.cells (zGI m vd vc vf).toArray zAi (0,0))=H1
 have k1:Keep zAM H H1:=by rw[<- hH1];exact Keep.push
 have a1:At H1 H.size (zGI m vd vc vf):=by rw[<- hH1];exact At.push
 have w:=hv.wf
 have g7:=(zHm a1 w).2.2
 have lf:zDD vf=some (.int .i64 m.files.length):=by have:=hv.f.len;rwa [zAf]at this
 have en:zAC .no .neq (.int .i64 (xs.length:Nat)) (.int .i64 (m.files.length:Nat))=some (.bool (!decide (xs.length=m.files.length))):=by
  rw[zAH];simp only[zC3];congr 2;rw[zA4];simp<;>omega
 rw[hx.len,zAa,zBf,zAa,zAg,g7,zAa,lf,zAa,en,zAa,zAl]
 by_cases hne:xs.length=m.files.length
 ·rw[if_neg (by simp[hne])]
  have hl:=hl hne
  refine zNW (λ_ h=>zGe m.files (xs.map (·.2))=true/\Keep zAM H h) (λk hk=>?_) ?_
  ·rw[zAa,g7,zAa,lf,zAa]
   refine zKa (λu h=>∃ i:Nat,i<=m.files.length/\u = .int .i64 (i:Nat)/\zGe (m.files.take i) ((xs.map (·.2)).take i)=true/\Keep zAM H1 h) (λu _=>match u with | .int _ t=>m.files.length-t.toNat|_=>0) ⟨0,zAA _,rfl,rfl,Keep.refl⟩ ?_
   rintro _ h ⟨i,hi,rfl,hall,kh⟩ k2 hk2
   have e1:zAC .no .lss (.int .i64 (i:Nat)) (.int .i64 (m.files.length:Nat))=some (.bool (decide (i<m.files.length))):=by
    rw[zAH];simp only[zC3];congr 2;rw[decide_eq_decide];omega
   rw[e1,zAa,zAl]
   by_cases hlt:i<m.files.length
   ·rw[if_pos (by simpa using hlt)]
    have k0:=k1.trans kh
    have hg:m.files[i]? = some m.files[i]:=zAj hlt
    have hgx:xs[i]? = some (xs[i]'(by omega)):=zAj (by omega)
    obtain⟨b,o,hix,hpt,_⟩:=(hv.f.keep k0 λ_ _=>id).at (i:=i) (x:=zEg m.files[i]) (by rw[zAp,hg];rfl)
    have hwf:=w.files _ (zAG hlt)
    have hbl:=hb i _ _ hgx hg
    have hgb:(xs.map (·.2))[i]? = some (xs[i]'(by omega)).2:=by rw[zAp,hgx];rfl
    have hft:=zW9 hg hgb
    rw[hall,zBh]at hft
    have hfb:=zZL hg hgb
    generalize m.files[i]=f at *
    generalize (xs[i]'(by omega))=x at *
    rw[hix .i64,zAa,hpt.agg (zDN hwf),zAa]
    simp only[zAcC,zBa]
    generalize hH6:h.push (.cells (zEg zVZ).toArray zBn (0,0))=h6
    have k6:Keep zAM h h6:=by rw[<- hH6];exact Keep.push
    have a6:At h6 h.size (zEg zVZ):=by rw[<- hH6];exact At.push
    obtain⟨h7,st7,a7,k7⟩:=a6.st (n:=34) (ds:=zEg f) (zDN zV0) (zDN hwf) zMQ
    have g0:=k0.1
    have k07:Keep zAM H h7:=(k0.trans k6).fresh k7 λb hb=>by omega
    have k17:Keep zAM H1 h7:=(kh.trans k6).fresh k7 λb hb=>by have:=kh.1;omega
    have hx7:=hx.keep k07 (λ_ _=>id) λ_ _=>id
    obtain⟨hs,p,hp,hld⟩:=hx7.at hgx
    have d33:=zYt a7.pt hwf
    have d1:=zAcD a7.pt hwf
    rw[zAg]at d33 d1
    rw[st7,zAV,hp .i64,zAa,hld,zAa,hs.len,zAa,zBf,zAa,zAg,d33,zAa,zYu,zAa]
    have bad:zW8 f x.2=false->∀ g,Keep zAM H g->Value.bool false = .bool (zGe m.files (xs.map (·.2)))/\Keep zAM H g:=λhf g kg=>⟨by rw[hfb hf],kg⟩
    cases hsz:decide ((x.2.length:Int)=f.size)
    ·simp only[zA8,zAe,zAd,zAO,zAT,zAv,zAl,zAa,if_true,if_false,zAb,zAc,decide_true,decide_false,reduceCtorEq,zBQ,zEH,zEI,zEE,zEF,zEG,zBq,zA9]
     exact bad (by simp[zW8,hsz]) _ k07
    ·have hbl:=hbl (of_decide_eq_true hsz)
     simp only[hp .i64,hld,zBf,zAg,d1,zA8,zAe,zAd,zAO,zAT,zAv,zAl,zAa,if_true,if_false,zAb,zAc,decide_true,decide_false,reduceCtorEq,zBQ,zEH,zEI,zEE,zEF,zEG,zBq,zA9]
     refine zAJ (zAcB hs (hT.keep k07 λ_ h=>h.elim) (λb hb=>zAS (hR b hb) k07.1) (by omega)) ?_
     rintro _ h9 ⟨rfl,k9⟩
     have d1':=zAcD (a7.keep k9 id).pt hwf
     rw[zAg]at d1'
     refine⟨d1',?_⟩
     rw[zA9,zAhI zGY hwf.sum,zAa]
     cases hsm:decide (zAch (6::x.2)=f.sum)
     ·simp only[zA8,zAe,zAd,zAO,zAT,zAv,zAl,zAa,if_true,if_false,zAb,zAc,decide_true,decide_false,reduceCtorEq,zBQ,zEH,zEI,zEE,zEF,zEG,zBq,zA9]
      exact bad (by simp[zW8,hsm]) _ (k07.trans k9)
     ·simp only[zA8,zAe,zAd,zAO,zAT,zAv,zAl,zAa,if_true,if_false,zAb,zAc,decide_true,decide_false,reduceCtorEq,zBQ,zEH,zEI,zEE,zEF,zEG,zBq,zA9]
      rw[zBV (by omega),zAa]
      exact hk2 _ _ ⟨i+1,by omega,rfl,by rw[hft];simp[zW8,of_decide_eq_true hsz,of_decide_eq_true hsm],k17.trans k9⟩ (by show m.files.length-(i+1)<m.files.length-i;omega)
   ·rw[if_neg (by simpa using hlt)]
    refine hk _ _ ⟨?_,k1.trans kh⟩
    rwa [zAs (by omega),zAs (by simp;omega)]at hall
  ·rintro _ h ⟨h1,h2⟩
   exact⟨by rw[h1],h2⟩
 ·rw[if_pos (by simp[hne])]
  exact⟨by rw[zZM (by simpa using hne)],k1⟩
theorem zAjR {n m:Nat}:zAC .no .gtr (.int .i64 (n:Nat)) (.int .i64 (m:Nat))=some (.bool (decide (n > m))):=by
 rw[zAH];simp only[zC3];congr 2;rw[decide_eq_decide];omega
theorem zAh2 {h:zAw}{q:Nat}{m:Man}{vd vc vf:Value}(a:At h q (zGI m vd vc vf))(hm:m.wf):ld1 h (Ptr q 4)=some (str m.ver.pre):=a.ld (by
 obtain⟨x,y,z,e⟩:=Ver.cases3 hm.ver
 obtain⟨n,⟨p,pre⟩,d,c,f⟩:=m
 simp only at e
 subst e
 rfl)
end Go.Proofs.YticdfkoncnnmmaaGreatDoor
namespace Go.Proofs.YticdfkoncnnmmaaGreatDoor.Came
open Go.X
theorem zAfa {q:List (List Value)}(h:∀ x∈q,∃ y:Dep,y.wf/\x=zFl y):∃ ys:List Dep,q=ys.map zFl/\∀ y∈ys,y.wf:=by
 induction q with
 | nil=>exact⟨[],rfl,λy h=>by cases h⟩
 | cons x q ih =>
  obtain⟨ys,hy,hw⟩:=ih λx hx=>h x (by simp[hx])
  obtain⟨y,yw,rfl⟩:=h x (by simp)
  exact⟨y::ys,by rw[hy];rfl,λz hz=>by
   rcases zAr.1 hz with rfl|hz
   ·exact yw
   ·exact hw z hz⟩
theorem zAcE {q:List (List Value)}(h:∀ x∈q,∃ y:zHl,y.wf/\x=zEg y):∃ ys:List zHl,q=ys.map zEg/\∀ y∈ys,y.wf:=by
 induction q with
 | nil=>exact⟨[],rfl,λy h=>by cases h⟩
 | cons x q ih =>
  obtain⟨ys,hy,hw⟩:=ih λx hx=>h x (by simp[hx])
  obtain⟨y,yw,rfl⟩:=h x (by simp)
  exact⟨y::ys,by rw[hy];rfl,λz hz=>by
   rcases zAr.1 hz with rfl|hz
   ·exact yw
   ·exact hw z hz⟩
theorem zAlz:zAbo zAL [(0,zBd),(1,zBL)]=true:=by kernel_rfl
theorem zAgu:prg.cellsOf zAL=6:=by kernel_rfl
theorem zAjS {w:World}{d:Nat}{cs:List Value}(h:Shp prg w d zAL cs):∃ x:Dep,x.wf/\cs=zFl x:=by
 obtain⟨d',hl,hfl⟩:=zNp zAlz h
 rw[zAgu]at hl
 have h0:=hfl 0 0 zBd rfl
 have h1:=hfl 1 1 zBL rfl
 rw[zOc]at h0;rw[zYq]at h1
 obtain⟨s,hs,hsl⟩:=zR5 zOA h0
 obtain⟨n,hsn,hnl⟩:=str_of hsl
 obtain⟨v,hv,hvc⟩:=zAcx h1
 refine⟨⟨n,v⟩,⟨hv,hnl⟩,?_⟩
 have e1:cs=(cs.drop 0).take 1++(cs.drop 1).take 5:=by
  rw[zAs (l:=cs.drop 1) (by simp;omega),zBY]
  exact(zBu 1 cs).symm
 rw[e1,hs,hvc,hsn];rfl
theorem zAjT:zAbo zBn [(0,zBd),(1,zCf),(33,zHC)]=true:=by kernel_rfl
theorem zAcF:prg.cellsOf zBn=34:=by kernel_rfl
theorem zAgv:prg.cellsOf zHC=1:=by kernel_rfl
theorem zAh3 {w:World}{d:Nat}{cs:List Value}(h:Shp prg w d zBn cs):∃ x:zHl,x.wf/\cs=zEg x:=by
 obtain⟨d',hl,hfl⟩:=zNp zAjT h
 rw[zAcF]at hl
 have h0:=hfl 0 0 zBd rfl
 have h1:=hfl 1 1 zCf rfl
 have h2:=hfl 2 33 zHC rfl
 rw[zOc]at h0;rw[zAcv]at h1;rw[zAgv]at h2
 obtain⟨s,hs,hsl⟩:=zR5 zOA h0
 obtain⟨n,hsn,hnl⟩:=str_of hsl
 obtain⟨e,he,hu,hc⟩:=zAjN
 obtain⟨l,hll,hlc,hlw⟩:=zZh he hu hc zAcv h1
 obtain⟨r,hr,hrc⟩:=zAaw hlw
 obtain⟨k,hk,hkw⟩:=shp_int zAhU h2
 refine⟨⟨n,r,k⟩,⟨hnl,by show r.length=32;omega,zAhX hkw⟩,?_⟩
 have e1:cs=(cs.drop 0).take 1++((cs.drop 1).take 32++(cs.drop 33).take 1):=by
  rw[zAs (l:=cs.drop 33) (by simp;omega),zBY]
  have h33:cs.drop 33=(cs.drop 1).drop 32:=by rw[zCE]
  rw[h33,zBu]
  exact(zBu 1 cs).symm
 rw[e1,hs,hlc,hrc,hk,hsn];rfl
theorem zAjU:prg.underlying zDk=some (.slice zAL):=by kernel_rfl
theorem zAh4:prg.underlying zGC=some (.slice zBn):=by kernel_rfl
theorem zAcG {w:World}{d:Nat}{cs:List Value}(hl:cs.length=1)(h:Shp prg w d zDk cs):∃ v,cs=[v]/\∃ xs:List Dep,SlE 6 (· < w.heap.size) w.heap v (xs.map zFl)/\∀ x∈xs,x.wf:=by
 match cs,hl with
 | [v],_ =>
  refine⟨v,rfl,?_⟩
  cases d with
  | zero=>exact h.elim
  | succ d =>
   simp only[Shp,zAjU]at h
   rcases h with h|⟨a,len,cap,hv,hle,hcap,hel⟩
   ·obtain rfl:v = .slice none 0 0:=by simpa using h
    exact⟨[],SlE.nil,λx h=>by cases h⟩
   ·obtain rfl:v = .slice (some a) len cap:=by simpa using hv
    rw[zAgu]at hel
    obtain⟨q,hq,hs,hqi⟩:=zK2 (n:=6) (q:=λcs=>∃ y:Dep,y.wf/\cs=zFl y) (by omega) hle (λcs ⟨y,_,e⟩ c hc=>by subst e;exact zKZ c hc) λi hi=>by
     obtain⟨cs',h1,h2⟩:=hel i hi
     exact⟨cs',h1,zAjS h2⟩
    obtain⟨ys,rfl,hw⟩:=zAfa hqi
    exact⟨ys,hs,hw⟩
theorem zAfb {w:World}{d:Nat}{cs:List Value}(hl:cs.length=1)(h:Shp prg w d zGC cs):∃ v,cs=[v]/\∃ xs:List zHl,SlE 34 (· < w.heap.size) w.heap v (xs.map zEg)/\∀ x∈xs,x.wf:=by
 match cs,hl with
 | [v],_ =>
  refine⟨v,rfl,?_⟩
  cases d with
  | zero=>exact h.elim
  | succ d =>
   simp only[Shp,zAh4]at h
   rcases h with h|⟨a,len,cap,hv,hle,hcap,hel⟩
   ·obtain rfl:v = .slice none 0 0:=by simpa using h
    exact⟨[],SlE.nil,λx h=>by cases h⟩
   ·obtain rfl:v = .slice (some a) len cap:=by simpa using hv
    rw[zAcF]at hel
    obtain⟨q,hq,hs,hqi⟩:=zK2 (n:=34) (q:=λcs=>∃ y:zHl,y.wf/\cs=zEg y) (by omega) hle (λcs ⟨y,_,e⟩ c hc=>by subst e;exact zMQ c hc) λi hi=>by
     obtain⟨cs',h1,h2⟩:=hel i hi
     exact⟨cs',h1,zAh3 h2⟩
    obtain⟨ys,rfl,hw⟩:=zAcE hqi
    exact⟨ys,hs,hw⟩
theorem zAlA:zAbo zAi [(0,zBd),(1,zAU),(5,zDk),(6,zDk),(7,zGC)]=true:=by kernel_rfl
theorem zAcH:prg.cellsOf zAi=8:=by kernel_rfl
theorem zAh5:prg.cellsOf zDk=1:=by kernel_rfl
theorem zAfc:prg.cellsOf zGC=1:=by kernel_rfl
theorem zAgw {w:World}{d:Nat}{cs:List Value}(h:Shp prg w d zAi cs):∃ (m:Man) (vd vc vf:Value),zMf (· < w.heap.size) w.heap m vd vc vf/\cs=zGI m vd vc vf:=by
 obtain⟨d',hl,hfl⟩:=zNp zAlA h
 rw[zAcH]at hl
 have h0:=hfl 0 0 zBd rfl
 have h1:=hfl 1 1 zAU rfl
 have h2:=hfl 2 5 zDk rfl
 have h3:=hfl 3 6 zDk rfl
 have h4:=hfl 4 7 zGC rfl
 rw[zOc]at h0;rw[zAcu]at h1;rw[zAh5]at h2 h3;rw[zAfc]at h4
 obtain⟨s,hs,hsl⟩:=zR5 zOA h0
 obtain⟨n,hsn,hnl⟩:=str_of hsl
 obtain⟨v,hv,hvc⟩:=zAgq h1
 obtain⟨vd,hvd,ds,hds,hdw⟩:=zAcG (by simp;omega) h2
 obtain⟨vc,hvc',cc,hcs,hcw⟩:=zAcG (by simp;omega) h3
 obtain⟨vf,hvf,fs,hfs,hfw⟩:=zAfb (by simp;omega) h4
 refine⟨⟨n,v,ds,cc,fs⟩,vd,vc,vf,⟨hds,hcs,hfs,⟨hnl,hv,hdw,hcw,hfw⟩⟩,?_⟩
 have e1:cs=(cs.drop 0).take 1++((cs.drop 1).take 4++((cs.drop 5).take 1++((cs.drop 6).take 1++(cs.drop 7).take 1))):=by
  match cs,hl with
  | [a,b,c,d,e,f,g,i],_=>rfl
 rw[e1,hs,hvc,hvd,hvc',hvf,hsn];rfl
theorem zAjV:prg.underlying zEr=some (.slice zCg):=by kernel_rfl
theorem zAlB:prg.underlying zCg=some (.int .u8):=by kernel_rfl
theorem zAjW:prg.cellsOf zCg=1:=by kernel_rfl
theorem zAcI {q:List (List Value)}(h:∀ x∈q,∃ y:UInt8,x=[.int .u8 y.toNat]):∃ l:List UInt8,q=l.map λy=>[Value.int .u8 y.toNat]:=by
 induction q with
 | nil=>exact⟨[],rfl⟩
 | cons x q ih =>
  obtain⟨l,hl⟩:=ih λx hx=>h x (by simp[hx])
  obtain⟨y,rfl⟩:=h x (by simp)
  exact⟨y::l,by rw[hl];rfl⟩
theorem zXa:∀ l:List UInt8,(l.map λy=>[Value.int .u8 y.toNat]).flatten=zBB l
 | []=>rfl
 | x::l=>by rw[zAW,zA7,zXa l];rfl
theorem zAlC {w:World}{d:Nat}{cs:List Value}(hl:cs.length=1)(h:Shp prg w d zEr cs):∃ v,cs=[v]/\∃ l:List UInt8,l.length<=9223372036854775807/\Sl (· < w.heap.size) w.heap v l:=by
 match cs,hl with
 | [v],_ =>
  refine⟨v,rfl,?_⟩
  cases d with
  | zero=>exact h.elim
  | succ d =>
   simp only[Shp,zAjV]at h
   rcases h with h|⟨a,len,cap,hv,hle,hcap,hel⟩
   ·obtain rfl:v = .slice none 0 0:=by simpa using h
    exact⟨[],by simp,Sl.nil⟩
   ·obtain rfl:v = .slice (some a) len cap:=by simpa using hv
    rw[zAjW]at hel
    have h1c:∀ cs:List Value,(∃ y:UInt8,cs=[.int .u8 y.toNat])->∀ c∈cs,c.oneCell'=true:=by
     rintro _ ⟨y,rfl⟩ c hc
     obtain rfl:c=_:=by simpa using hc
     rfl
    obtain⟨q,hq,hs,hqi⟩:=zK2 (n:=1) (q:=λcs=>∃ y:UInt8,cs=[.int .u8 y.toNat]) (by omega) hle h1c λi hi=>by
     obtain⟨cs',h1,h2⟩:=hel i hi
     obtain⟨n,hn,hw⟩:=Go.X.shp_int zAlB h2
     refine⟨cs',h1,UInt8.ofNat n.toNat,?_⟩
     rw[hn]
     have:0<=n/\n<=255:=by
      simp only[Lit.wf,IntKind.min,IntKind.max,IntKind.signed,IntKind.bits]at hw
      simp at hw
      omega
     have e:(((UInt8.ofNat n.toNat).toNat:Nat):Int)=n:=by rw[UInt8.toNat_ofNat'];omega
     rw[e]
    obtain⟨l,rfl⟩:=zAcI hqi
    rw[zAf]at hq
    have hm:maxLen=9223372036854775807:=rfl
    obtain⟨⟨a',c',he,hc,hx⟩,_,_⟩:=hs
    rw[zAf]at he
    cases he
    rcases hx with hx|⟨b,o,e,hb',⟨cs,T,f,hb,h1,h2⟩⟩
    ·have:l=[]:=by simpa using hx
     subst this
     exact⟨[],by simp,zSF,⟨some a,cap,rfl,zAA _,λ_ _=>rfl⟩,λb hb=>absurd rfl (zHP hb).2⟩
    ·cases e
     have hfl:=zXa l
     rw[hfl]at h1 h2
     have hbl:(zBB l).length=l.length:=by simp[zBB]
     exact⟨l,by omega,Bs.mk hb rfl (by omega) (by rw[<- hbl];exact h2),⟨_,cap,rfl,by omega,λ_ _=>rfl⟩,λb2 hb2=>by obtain⟨rfl,_⟩:=zHP hb2;exact hb'⟩
theorem zAjX:prg.underlying zMt=some (.slice zEr):=by kernel_rfl
theorem zAh6:prg.cellsOf zEr=1:=by kernel_rfl
theorem zAjY {w:World}{q:List (List Value)}(h:∀ x∈q,∃ v,x=[v]/\∃ l:List UInt8,l.length<=9223372036854775807/\Sl (· < w.heap.size) w.heap v l):∃ xs:List (Value×List UInt8),q=zGD (xs.map (·.1))/\∀ x∈xs,Sl (· < w.heap.size) w.heap x.1 x.2:=by
 induction q with
 | nil=>exact⟨[],rfl,λx h=>by cases h⟩
 | cons x q ih =>
  obtain⟨xs,hx,hw⟩:=ih λx hx=>h x (by simp[hx])
  obtain⟨v,rfl,l,_,hs⟩:=h x (by simp)
  exact⟨(v,l)::xs,by rw[hx];rfl,λz hz=>by
   rcases zAr.1 hz with rfl|hz
   ·exact hs
   ·exact hw z hz⟩
theorem zAjZ {w:World}{d:Nat}{v:Value}(h:Shp prg w d zMt [v]):∃ xs:List (Value×List UInt8),xs.length<=9223372036854775807/\BSS (· < w.heap.size) (· < w.heap.size) w.heap v xs:=by
 cases d with
 | zero=>exact h.elim
 | succ d =>
  simp only[Shp,zAjX]at h
  rcases h with h|⟨a,len,cap,hv,hle,hcap,hel⟩
  ·obtain rfl:v = .slice none 0 0:=by simpa using h
   exact⟨[],by simp,SlE.nil,λx h=>by cases h⟩
  ·obtain rfl:v = .slice (some a) len cap:=by simpa using hv
   rw[zAh6]at hel
   obtain⟨q,hq,hs,hqi⟩:=zK2 (n:=1) (q:=λcs=>cs.length=1/\∃ v,cs=[v]/\∃ l:List UInt8,l.length<=9223372036854775807/\Sl (· < w.heap.size) w.heap v l) (by omega) hle (λcs ⟨_,v,e,l,_,hs⟩ c hc=>by subst e;simp at hc;subst hc;exact hs.one) λi hi=>by
    obtain⟨cs',h1,h2⟩:=hel i hi
    have hl1:cs'.length=1:=(World.cells?_some h1).2.1
    exact⟨cs',h1,hl1,zAlC hl1 h2⟩
   obtain⟨xs,rfl,hw⟩:=zAjY λx hx=>(hqi x hx).2
   have hm:maxLen=9223372036854775807:=rfl
   refine⟨xs,?_,hs,hw⟩
   rw[zTK,zAf]at hq
   omega
theorem zAfd {W:World}(h:laidMetH Tryz.prog Rows.planMakesRow.laid W)(ho:W.ShapedOpen Tryz.prog):zZF W.heap/\zTa W.heap:=by
 refine⟨?_,(tables h ho).1⟩
 have h:laidMet Tryz.prog Rows.planMakesRow.laid W:=h
 obtain⟨ps,hv,_⟩:=h
 obtain⟨t,ms,h1,h2,hu⟩:=zAlt
 refine⟨⟨?_,?_⟩,⟨?_,zAkY ho⟩,?_⟩
 ·obtain⟨cs,T,f,fuel,p,hb,hd⟩:=zZG (dd:=Rows.laid_strconv_ErrSyntax) zYp h1 hv (by repeat (first|exact List.Mem.head _|refine List.Mem.tail _ ?_))
  obtain⟨T',x,hcs⟩:=zZH hu hd
  exact⟨T',x,T,f,by rw[hb];congr 2;apply Array.ext';rw[hcs]⟩
 ·obtain⟨cs,T,f,fuel,p,hb,hd⟩:=zZG (dd:=Rows.laid_strconv_ErrRange) zAaH h2 hv (by repeat (first|exact List.Mem.head _|refine List.Mem.tail _ ?_))
  obtain⟨T',x,hcs⟩:=zZH hu hd
  exact⟨T',x,T,f,by rw[hb];congr 2;apply Array.ext';rw[hcs]⟩
 ·exact zWQ (t:=zSE) (e:=zZd) (n:=20) zAcw (by kernel_rfl) (by kernel_rfl) (by kernel_rfl) (by kernel_rfl) (by kernel_rfl) hv (by repeat (first|exact List.Mem.head _|refine List.Mem.tail _ ?_))
 ·obtain⟨t,ht,hu,hc⟩:=zAlv
  obtain⟨cs,T,f,fuel,p,hb,hd⟩:=zZG (dd:=zAls zZD) zAlu ht hv (by repeat (first|exact List.Mem.head _|refine List.Mem.tail _ ?_))
  have:=zVY hu zOA zOc hc hd
  exact⟨T,f,by rw[hb];congr 2;apply Array.ext';rw[this]⟩
def zAaK (h:Array Obj):Array Obj:=lay (lay (zAaI h) zMr (flat Rows.laid_syngraph_sha_begin)) zIZ (flat Rows.laid_syngraph_sha_table)
noncomputable def zQS (os:Os):World :=
 { World.holding Tryz.prog os ⟨#[],#[],[]⟩ with heap:=zAaK (World.holding Tryz.prog os ⟨#[],#[],[]⟩).heap }
end Go.Proofs.YticdfkoncnnmmaaGreatDoor.Came
