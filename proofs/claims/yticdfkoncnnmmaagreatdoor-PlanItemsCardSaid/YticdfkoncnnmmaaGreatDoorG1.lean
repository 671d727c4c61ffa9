import Derived.Test.YticdfkoncnnmmaaGreatDoorGO
import Derived.Test.YticdfkoncnnmmaaGreatDoorGN
import Derived.Test.YticdfkoncnnmmaaGreatDoorG0
set_option linter.unusedSimpArgs false
set_option linter.unusedVariables false
set_option maxRecDepth 100000
namespace Go.Proofs.YticdfkoncnnmmaaGreatDoor
open Go.X Go.X.Diff
theorem zAbr:zAB prg zAz=some [str []].toArray:=by kernel_rfl
structure Dep where
 name:List UInt8
 want:zPS
structure Dep.wf (d:Dep):Prop where
 want:d.want.wf
 name:d.name.length<=9223372036854775807
def zDa (d:Dep):List Value:=str d.name :: zDl d.want
def zNG:Dep:=⟨[],zSR⟩
theorem zNm:zNG.wf:=⟨zQa,by simp[zNG]⟩
theorem zB7 {d:Dep}(h:d.wf):(zDa d).length=6:=by simp[zDa,zEs h.want]
theorem zID {d:Dep}:∀ c ∈ zDa d,c.oneCell'=true:=by
 intro c hc
 rcases List.mem_cons.1 hc with rfl | hc
 ·rfl
 ·exact zQX c hc
theorem zAfN:zAB prg zAj=some (zDa zNG).toArray:=by kernel_rfl
theorem zAhl:zJT prg zAj=some ([(0,1),(1,5)],(zDa zNG).toArray):=by kernel_rfl
theorem zWn {h:zAd}{q:Nat}{d:Dep}(a:At h q (zDa d))(hd:d.wf):ldN 5 h (Ptr q 1)=some (.agg (zDl d.want).toArray):=by
 obtain⟨T,a⟩:=a
 exact ldN_mid (A:=[str d.name]) (B:=zDl d.want) (C:=[]) (by rw[List.append_nil];exact a) rfl (zEs hd.want).symm
structure zE8 where
 name:List UInt8
 sum:List UInt8
 size:Int
def zB9 (f:zE8):List Value:=str f.name :: (zAy f.sum++[.int .i64 f.size])
structure zE8.wf (f:zE8):Prop where
 name:f.name.length<=9223372036854775807
 sum:f.sum.length=32
 size : -9223372036854775808<=f.size/\f.size<=9223372036854775807
theorem zBG {f:zE8}(h:f.wf):(zB9 f).length=34:=by simp[zB9,h.sum]
theorem zKd {f:zE8}:∀ c ∈ zB9 f,c.oneCell'=true:=by
 intro c hc
 rcases List.mem_cons.1 hc with rfl | hc
 ·rfl
 ·rcases List.mem_append.1 hc with hc | hc
  ·exact bcells_one c hc
  ·simp at hc;subst hc;rfl
structure Man where
 name:List UInt8
 ver:Ver
 deps:List Dep
 conf:List Dep
 files:List zE8
structure Man.wf (m:Man):Prop where
 name:m.name.length<=9223372036854775807
 ver:m.ver.wf
 deps:∀ d ∈ m.deps,d.wf
 conf:∀ d ∈ m.conf,d.wf
 files:∀ f ∈ m.files,f.wf
def zEN (m:Man)(vd vc vf:Value):List Value:=str m.name :: (zCt m.ver++[vd,vc,vf])
theorem zAH {m:Man}{vd vc vf:Value}(h:m.wf):(zEN m vd vc vf).length=8:=by simp[zEN,zBD h.ver]
structure zJJ (P:Nat->Prop)(H:zAd)(m:Man)(vd vc vf:Value):Prop where
 d:SlE 6 P H vd (m.deps.map zDa)
 c:SlE 6 P H vc (m.conf.map zDa)
 f:SlE 34 P H vf (m.files.map zB9)
 wf:m.wf
theorem zJJ.keep {P S:Nat->Prop}{H H':zAd}{m:Man}{vd vc vf:Value}(h:zJJ P H m vd vc vf)(k:Keep S H H')(hs:∀ b,P b->¬ S b):zJJ P H' m vd vc vf :=
 ⟨h.d.keep k hs,h.c.keep k hs,h.f.keep k hs,h.wf⟩
theorem zJJ.one {P:Nat->Prop}{H:zAd}{m:Man}{vd vc vf:Value}(h:zJJ P H m vd vc vf):∀ c ∈ zEN m vd vc vf,c.oneCell'=true:=by
 intro c hc
 rcases List.mem_cons.1 hc with rfl | hc
 ·rfl
 rcases List.mem_append.1 hc with hc | hc
 ·exact zIB c hc
 simp at hc
 rcases hc with rfl | rfl | rfl
 ·exact h.d.oneC
 ·exact h.c.oneC
 ·exact h.f.oneC
section
variable {h:zAd} {q:Nat} {m:Man} {vd vc vf:Value}
theorem zBE (a:At h q (zEN m vd vc vf)):ld1 h (Ptr q 0)=some (str m.name):=a.ld rfl
theorem zFK (a:At h q (zEN m vd vc vf))(hm:m.wf):ldN 4 h (Ptr q 1)=some (.agg (zCt m.ver).toArray):=by
 obtain⟨T,a⟩:=a
 exact ldN_mid (A:=[str m.name]) (B:=zCt m.ver) (C:=[vd,vc,vf]) a rfl (zBD hm.ver).symm
theorem zE9 (a:At h q (zEN m vd vc vf))(hm:m.wf):ld1 h (Ptr q 5)=some vd/\ld1 h (Ptr q 6)=some vc/\ld1 h (Ptr q 7)=some vf:=by
 have h4:=zBD hm.ver
 refine⟨a.ld ?_,a.ld ?_,a.ld ?_⟩ <;> simp[zEN,List.getElem?_append_right,h4]
theorem zQZ (a:At h q (zEN m vd vc vf))(hm:m.wf):ldN 8 h (Ptr q 0)=some (.agg (zEN m vd vc vf).toArray):=a.ldN (zAH hm)
end
def zMd (l:List (List UInt8))(i:Nat):Bool:=decide (i=0) || zTU (l.getD (i - 1) []) (l.getD i [])
def zOP (l:List (List UInt8)):Bool:=(List.range l.length).all (zMd l)
theorem zWo {l:List (List UInt8)}{i:Nat}(hi:i<l.length)(h:zMd l i=false):zOP l=false:=by
 unfold zOP
 rw[List.all_eq_false];exact⟨i,by simpa using hi,by simp[h]⟩
theorem zT3 {l:List (List UInt8)}{i:Nat}(h:(List.range i).all (zMd l)=true)(hb:zMd l i=true):(List.range (i+1)).all (zMd l)=true:=by
 rw[List.range_succ,List.all_append,h];simp[hb]
theorem zYX {H:zAd}{d:Dep}:zAg prg zCB [.agg (zDa d).toArray] H fun u H'=>u=str d.name/\Keep (fun _=>False) H H':=by
 apply zKr
 unfold zJn
 simp only[zAN,zAs]
 have a:At (H.push (.cells (zDa d).toArray zAj (0,0))) H.size (zDa d):=At.push
 have d0:ld1 (H.push (.cells (zDa d).toArray zAj (0,0))) (Ptr H.size 0)=some (str d.name):=a.ld rfl
 rw[zAx,zAa,Nat.add_zero,d0,zAa]
 exact⟨rfl,Keep.push⟩
theorem zYY {P:Nat->Prop}{H:zAd}{v:Value}{l:List Dep}(hv:SlE 6 P H v (l.map zDa))(hw:∀ d ∈ l,d.wf)(hl:l.length<=1099511627776) :
  zAg prg zCH [v,.func (.func zCB) #[] #[]] H fun u H'=>u = .bool (zOP (l.map (·.name)))/\Keep (fun _=>False) H H':=by
 apply zF5
 unfold zEq
 have hlen:=hv.len
 rw[List.length_map]at hlen
 have hln:(l.map (·.name)).length=l.length:=by simp
 have hcall:∀ (d:Dep) (h:zAd) (k:Value->zAd->Prop),(∀ h',Keep (fun _=>False) h h'->k (str d.name) h')->zBF prg (.func (.func zCB) #[] #[]) [.agg (zDa d).toArray] h k:=fun d h k hk =>
  .inl ⟨zCB,#[],#[],rfl,by kernel_rfl,zAg.mono (R:=fun u H'=>u=str d.name/\Keep (fun _=>False) h H') (zYX (d:=d)) fun u h' hR=>by obtain⟨rfl,k'⟩:=hR;exact hk h' k'⟩
 refine zL2 (fun _ h=>zOP (l.map (·.name))=true/\Keep (fun _=>False) H h) (fun k hk=>?_) ?_
 ·refine zHU (fun u h=>∃ i:Nat,1<=i/\u = .int .i64 (i:Nat)/\(List.range (min i l.length)).all (zMd (l.map (·.name)))=true/\Keep (fun _=>False) H h) (fun u _=>match u with | .int _ t=>l.length - t.toNat | _=>0) ⟨1,Nat.le_refl _,rfl,?_,Keep.refl⟩ ?_
  ·by_cases h0:l.length=0
   ·rw[h0];rfl
   ·rw[Nat.min_eq_left (by omega)];rfl
  rintro _ h ⟨i,hi,rfl,hall,kh⟩ k2 hk2
  have e1:zAh .no .lss (.int .i64 (i:Nat)) (.int .i64 (l.length:Nat))=some (.bool (decide (i<l.length))):=by
   rw[zAi];simp only[zA9];congr 2;rw[decide_eq_decide];omega
  rw[hlen,zAa,e1,zAa,zAc]
  by_cases hlt:i<l.length
  ·rw[if_pos (by simpa using hlt)]
   have hg:l[i]? = some l[i]:=List.getElem?_eq_getElem hlt
   have hg':l[i - 1]? = some (l[i - 1]'(by omega)):=List.getElem?_eq_getElem (by omega)
   have hvh:=hv.keep kh fun _ _=>id
   obtain⟨b,o,hix,hpt,_⟩:=hvh.at (i:=i) (x:=zDa l[i]) (by rw[List.getElem?_map,hg];rfl)
   obtain⟨b',o',hix',hpt',_⟩:=hvh.at (i:=i - 1) (x:=zDa (l[i - 1]'(by omega))) (by rw[List.getElem?_map,hg'];rfl)
   have hwd:=hw _ (List.getElem_mem hlt)
   have hwd':=hw _ (List.getElem_mem (show i - 1<l.length by omega))
   have hra:zMd (l.map (·.name)) i=zTU (l[i - 1]'(by omega)).name l[i].name:=by
    have h0:((l.map (·.name)).getD (i - 1) [])=(l[i - 1]'(by omega)).name:=by simp[List.getD,hg']
    have h1:((l.map (·.name)).getD i [])=l[i].name:=by simp[List.getD,hg]
    unfold zMd
    rw[h0,h1,decide_eq_false (by omega)];rfl
   generalize l[i]=d at *
   generalize (l[i - 1]'(by omega))=d' at *
   have e2:zAh .no .sub (.int .i64 (i:Nat)) (.int .i64 1)=some (.int .i64 ((i - 1:Nat):Int)):=by
    rw[zAi];simp only[zA9];rw[zAM (by omega) (by omega)];congr 2;omega
   rw[e2,zAa,hix' .i64,zAa,hpt'.agg (zB7 hwd'),zAa,hix .i64,zAa,hpt.agg (zB7 hwd),zAa]
   refine hcall d' h _ fun h5 k5=>?_
   refine⟨(hpt.keep k5 id).agg (zB7 hwd),?_⟩
   refine hcall d h5 _ fun h6 k6=>?_
   have hge:zAh .no .geq (str d'.name) (str d.name)=some (.bool (!zTU d'.name d.name)):=by rw[zEI];exact zV5
   rw[hge,zAa,zAc]
   have kk:=kh.trans (k5.trans k6)
   cases hb:zTU d'.name d.name
   ·rw[if_pos (show(!false)=true from rfl)]
    exact⟨by rw[zWo (i:=i) (by rw[hln];exact hlt) (by rw[hra,hb])],kk⟩
   ·rw[if_neg (by decide),zAG (by omega),zAa]
    refine hk2 _ _ ⟨i+1,by omega,rfl,?_,kk⟩ (by show l.length - (i+1)<l.length - i;omega)
    rw[Nat.min_eq_left (by omega)]at hall ⊢
    exact zT3 hall (by rw[hra,hb])
  ·rw[if_neg (by simpa using hlt)]
   refine hk _ _ ⟨?_,kh⟩
   rw[Nat.min_eq_right (by omega)]at hall
   unfold zOP
   rw[hln];exact hall
 ·rintro _ h ⟨h1,h2⟩
  exact⟨by rw[h1],h2⟩
def zPs (own:List UInt8)(d:Dep):Bool:=zG2 d.name && !decide (d.name=own) && zFJ d.want
def zLw (own:List UInt8)(l:List Dep):Bool:=l.all (zPs own) && decide (l.length<=16) && zOP (l.map (·.name))
theorem zXk {own:List UInt8}{l:List Dep}{d:Dep}(hd:d ∈ l)(h:zPs own d=false):zLw own l=false:=by
 unfold zLw
 rw[List.all_eq_false.2 ⟨d,hd,by simp[h]⟩];rfl
theorem zAcz {P:Nat->Prop}{H:zAd}{m:Man}{vd vc vf v:Value}{l:List Dep}(hv:SlE 6 P H v (l.map zDa))(hw:∀ d ∈ l,d.wf)(hO:zNR H)(hl:l.length<=1099511627776) :
  zAg prg zCQ [.agg (zEN m vd vc vf).toArray,v] H fun u H'=>u = .bool (zLw m.name l)/\Keep (fun _=>False) H H':=by
 apply zIo
 unfold zGp
 have hlen:=hv.len
 rw[List.length_map]at hlen
 simp only[zAN,zAs]
 generalize hH1:H.push (.cells (zEN m vd vc vf).toArray zAb (0,0))=H1
 have k1:Keep (fun _=>False) H H1:=by rw[<- hH1];exact Keep.push
 have a1:At H1 H.size (zEN m vd vc vf):=by rw[<- hH1];exact At.push
 have s1:H1.size=H.size+1:=by rw[<- hH1];simp
 refine zL2 (fun _ h=>l.all (zPs m.name)=true/\Keep (fun _=>False) H1 h) (fun k hk=>?_) ?_
 ·rw[hlen,zAa]
  refine zHU (fun u h=>∃ i:Nat,i<=l.length/\u = .int .i64 (i:Nat)/\(l.take i).all (zPs m.name)=true/\Keep (fun _=>False) H1 h) (fun u _=>match u with | .int _ t=>l.length - t.toNat | _=>0) ⟨0,Nat.zero_le _,rfl,rfl,Keep.refl⟩ ?_
  rintro _ h ⟨i,hi,rfl,hall,kh⟩ k2 hk2
  have e1:zAh .no .lss (.int .i64 (i:Nat)) (.int .i64 (l.length:Nat))=some (.bool (decide (i<l.length))):=by
   rw[zAi];simp only[zA9];congr 2;rw[decide_eq_decide];omega
  rw[e1,zAa,zAc]
  by_cases hlt:i<l.length
  ·rw[if_pos (by simpa using hlt)]
   have hg:l[i]? = some l[i]:=List.getElem?_eq_getElem hlt
   have hvh:=hv.keep (k1.trans kh) fun _ _=>id
   obtain⟨b,o,hix,hpt,_⟩:=hvh.at (i:=i) (x:=zDa l[i]) (by rw[List.getElem?_map,hg];rfl)
   have hwd:=hw _ (List.getElem_mem hlt)
   have hmem:l[i] ∈ l:=List.getElem_mem hlt
   have hnext:zPs m.name l[i]=true->(l.take (i+1)).all (zPs m.name)=true:=fun hb=>by
    rw[List.take_add_one,hg,List.all_append,hall];simp[hb]
   generalize l[i]=d at *
   rw[hix .i64,zAa,hpt.agg (zB7 hwd),zAa]
   simp only[zAfN,zAs]
   generalize hH6:h.push (.cells (zDa zNG).toArray zAj (0,0))=h6
   have k6:Keep (fun _=>False) h h6:=by rw[<- hH6];exact Keep.push
   have a6:At h6 h.size (zDa zNG):=by rw[<- hH6];exact At.push
   obtain⟨h7,st7,a7,k7⟩:=a6.st (n:=6) (ds:=zDa d) (zB7 zNm) (zB7 hwd) zID
   have g1:=kh.1
   have k17:Keep (fun _=>False) H1 h7:=(kh.trans k6).fresh k7 fun b hb=>by omega
   have d0:ld1 h7 (Ptr h.size 0)=some (str d.name):=a7.ld rfl
   rw[st7,zAm,zAx,zAa,Nat.add_zero,d0,zAa]
   refine zAk (zV4 hwd.name) ?_
   rintro _ h8 ⟨rfl,k8⟩
   have a8:=a7.keep k8 id
   have k18:=k17.trans k8
   have m8:=zBE (a1.keep k18 id)
   have d8:ld1 h8 (Ptr h.size 0)=some (str d.name):=a8.ld rfl
   have w8:=zWn a8 hwd
   have hO8:=hO.keep (k1.trans k18) fun _ h=>h.elim
   have eqn:zAh .no .eql (str d.name) (str m.name)=some (.bool (decide (d.name=m.name))):=zBX
   have bad:zPs m.name d=false->∀ h',Keep (fun _=>False) h8 h'->Value.bool false = .bool (zLw m.name l)/\Keep (fun _=>False) H h':=fun hb h' k'=>⟨by rw[zXk hmem hb],k1.trans (k18.trans k')⟩
   cases hn:zG2 d.name
   ·simp only[zAx,Nat.add_zero,Nat.zero_add,zAq,Bool.not_true,Bool.not_false,zAl,zAo,zAe,zAc,zAa,if_true,if_false,Bool.false_eq_true,Bool.true_eq_false,decide_true,decide_false,reduceCtorEq,zAF,zCz,zCA,zCw,zCx,zCy,zAw,zAr]
    exact bad (by simp[zPs,hn]) _ Keep.refl
   cases hq:decide (d.name=m.name)
   ·simp only[zAx,Nat.add_zero,Nat.zero_add,d8,m8,eqn,hq,w8,zAq,Bool.not_true,Bool.not_false,zAl,zAo,zAe,zAc,zAa,if_true,if_false,Bool.false_eq_true,Bool.true_eq_false,decide_true,decide_false,reduceCtorEq,zAF,zCz,zCA,zCw,zCx,zCy,zAw,zAr]
    refine zAk (zKc hwd.want hO8) ?_
    rintro _ h9 ⟨rfl,k9⟩
    cases hk9:zFJ d.want
    ·simp only[zAq,Bool.not_true,Bool.not_false,zAl,zAo,zAe,zAc,zAa,if_true,if_false,Bool.false_eq_true,Bool.true_eq_false,decide_true,decide_false,reduceCtorEq,zAF,zCz,zCA,zCw,zCx,zCy,zAw,zAr]
     exact bad (by simp[zPs,hk9]) _ k9
    ·simp only[zAq,Bool.not_true,Bool.not_false,zAl,zAo,zAe,zAc,zAa,if_true,if_false,Bool.false_eq_true,Bool.true_eq_false,decide_true,decide_false,reduceCtorEq,zAF,zCz,zCA,zCw,zCx,zCy,zAw,zAr]
     rw[zAG (by omega),zAa]
     exact hk2 _ _ ⟨i+1,by omega,rfl,hnext (by simp[zPs,hn,hk9,of_decide_eq_false hq]),k18.trans k9⟩ (by show l.length - (i+1)<l.length - i;omega)
   ·simp only[zAx,Nat.add_zero,Nat.zero_add,d8,m8,eqn,hq,zAq,Bool.not_true,Bool.not_false,zAl,zAo,zAe,zAc,zAa,if_true,if_false,Bool.false_eq_true,Bool.true_eq_false,decide_true,decide_false,reduceCtorEq,zAF,zCz,zCA,zCw,zCx,zCy,zAw,zAr]
    exact bad (by simp[zPs,of_decide_eq_true hq]) _ Keep.refl
  ·rw[if_neg (by simpa using hlt)]
   refine hk _ _ ⟨?_,kh⟩
   rwa [List.take_of_length_le (by omega)]at hall
 ·rintro _ h ⟨hall,kh⟩
  have e3:zAh .no .leq (.int .i64 (l.length:Nat)) (.int .i64 16)=some (.bool (decide (l.length<=16))):=by
   rw[zAi];simp only[zA9];congr 2;rw[decide_eq_decide];omega
  have kk:=k1.trans kh
  rw[hlen,zAa,e3,zAa]
  unfold zLw
  rw[hall]
  cases h16:decide (l.length<=16)
  ·simp only[zAq,Bool.not_true,Bool.not_false,zAl,zAo,zAe,zAc,zAa,if_true,if_false,Bool.false_eq_true,Bool.true_eq_false,decide_true,decide_false,reduceCtorEq,zAF,zCz,zCA,zCw,zCx,zCy,zAw,zAr,Bool.true_and,Bool.false_and]
   exact⟨by trivial,kk⟩
  ·simp only[zAq,Bool.not_true,Bool.not_false,zAl,zAo,zAe,zAc,zAa,if_true,if_false,Bool.false_eq_true,Bool.true_eq_false,decide_true,decide_false,reduceCtorEq,zAF,zCz,zCA,zCw,zCx,zCy,zAw,zAr,Bool.true_and]
   refine zAk (zYY (hv.keep kk fun _ _=>id) hw hl) ?_
   rintro _ h2 ⟨rfl,k2⟩
   simp only[zAq,Bool.not_true,Bool.not_false,zAl,zAo,zAe,zAc,zAa,if_true,if_false,Bool.false_eq_true,Bool.true_eq_false,decide_true,decide_false,reduceCtorEq,zAF,zCz,zCA,zCw,zCx,zCy,zAw,zAr]
   exact⟨by trivial,kk.trans k2⟩
def zXl (m:Man):Bool:=zG2 m.name && zEX m.ver && zLw m.name m.deps && zLw m.name m.conf
def zQ0 (l:List (List UInt8)):List UInt8:=zNF [32] l++[10]
theorem zAd3 {h:zAd}{q:Nat}{l:List (List UInt8)}{n:Nat}(a:At h q (l.map str))(hn:n=l.length):SlE 1 (· = q) h (.slice (some ⟨q,0,none⟩) n n) (zOh l):=by
 subst hn
 exact⟨⟨_,l.length,by rw[zLS],by rw[zLS];exact Nat.le_refl _,.inr ⟨q,0,rfl,rfl,by rw[zJH];exact a.pt⟩⟩,zNe,zMJ fun v hv=>by obtain⟨x,_,rfl⟩:=List.mem_map.1 hv;rfl⟩
theorem zWp (s:List UInt8):∀ l:List (List UInt8),(zNF s l).length<=total l+l.length * s.length
 | []=>by simp[zNF]
 | x :: xs=>by
  have:∀ ys:List (List UInt8),((ys.map (s ++ ·)).flatten).length=total ys+ys.length * s.length:=by
   intro ys
   induction ys with
   | nil=>simp[total]
   | cons y ys ih =>
    rw[List.map_cons,List.flatten_cons,List.length_append,List.length_append,ih]
    unfold total
    rw[List.flatten_cons,List.length_append,List.length_cons,Nat.succ_mul];omega
  unfold zNF
  rw[List.length_append,this]
  unfold total
  rw[List.flatten_cons,List.length_append,List.length_cons,Nat.succ_mul];omega
theorem zYZ {H:zAd}{q n:Nat}{l:List (List UInt8)}(a:At H q (l.map str))(hn:n=l.length)(h4:l.length<=100)(ht:total l<=1099511627776) :
  zAg prg zCI [.slice (some ⟨q,0,none⟩) n n] H fun u H'=>u=str (zQ0 l)/\Keep (fun _=>False) H H':=by
 apply zMp
 unfold zMb
 refine zAk (zAcp (sep:=[32]) (zAd3 a hn) (fun b hb=>by subst hb;exact a.lt) (by omega) (by simp) ht) ?_
 rintro _ h1 ⟨rfl,k1⟩
 have hj:=zWp [32] l
 have e:zAh .no .add (str (zNF [32] l)) (.string ⟨#[10]⟩)=some (str (zNF [32] l++[10])):=zQU (b:=[10]) (by simp at hj ⊢;omega)
 rw[e,zAa]
 exact⟨rfl,k1⟩
theorem zAiC {a b c:ByteArray}:zFt prg zAz 3 [(0,.string a),(1,.string b),(2,.string c)]=some #[.string a,.string b,.string c]:=by kernel_rfl
def zGD:List UInt8:=[112,97,99,107,97,103,101]
def zT4:List UInt8:=[110,101,101,100,115]
def zQb:List UInt8:=[114,101,102,117,115,101,115]
def zVf (w:List UInt8)(d:Dep):List UInt8:=zQ0 [w,d.name,zQY d.want]
def zAbs (m:Man):List UInt8:=zQ0 [zGD,m.name,zFH m.ver]++((m.deps.map (zVf zT4)).flatten++(m.conf.map (zVf zQb)).flatten)
theorem zNn {l:List UInt8}(h:zG2 l=true):l.length<=32:=by
 unfold zG2 at h
 simp only[Bool.and_eq_true,decide_eq_true_eq]at h
 exact h.1.1.2
theorem zOQ {l:List (List UInt8)}:(zQ0 l).length<=total l+l.length+1:=by
 have:=zWp [32] l
 unfold zQ0
 rw[List.length_append];simp at this ⊢;omega
theorem zT5 {w:zPS}(h:w.wf):(zQY w).length<=42:=by
 unfold zQY
 cases hok:zFJ w
 ·simp
 cases hs:decide (w.op=[42])
 ·have hm:=(zT2 hok hs).1
  have:∀ x ∈ zAbf,x.length<=2:=by decide
  have h1:=this _ hm
  have h2:=zOL (v:=w.ver) h.ver.p3
  simp only[cond_true,cond_false,List.length_append];omega
 ·simp
theorem zNo {w:List UInt8}{d:Dep}(hw:w.length<=10)(hd:d.wf)(hn:zG2 d.name=true):(zVf w d).length<=100:=by
 have h1:=zNn hn
 have h2:=zT5 hd.want
 have:=zOQ (l:=[w,d.name,zQY d.want])
 unfold zVf
 simp[total]at this ⊢;omega
theorem zM2 {α:Type}{f:α->List UInt8}{n:Nat}:∀ {l:List α},(∀ x ∈ l,(f x).length<=n)->(l.map f).flatten.length<=l.length * n
 | [],_=>by simp
 | x :: l,h=>by
  have ih:=zM2 (f:=f) (n:=n) (l:=l) fun y hy=>h y (List.mem_cons_of_mem _ hy)
  have:=h x (List.mem_cons_self ..)
  rw[List.map_cons,List.flatten_cons,List.length_append,List.length_cons,Nat.succ_mul];omega
theorem zAfO {a b c:List UInt8}:zFt prg zAz 3 [(0,str a),(1,str b),(2,str c)]=some ([a,b,c].map str).toArray:=zAiC
theorem zT6 {P:Nat->Prop}{p:Nat}{H:zAd}{v:Value}{l:List Dep}{w acc:List UInt8}{k:Value->zAd->Prop}
  (hv:SlE 6 P H v (l.map zDa)) (hP:∀ b,P b->b<p) (hb:BAt (p < ·) p H acc) (hp:p<H.size) (hw:∀ d ∈ l,d.wf) (hok:∀ d ∈ l,zG2 d.name=true) (hl:l.length<=1048576) (hw8:w.length<=10) (hacc:acc.length<=1099511627776)
  (hO:zNR H) (hT:zTW H) (hN:NG<=p)
  (hk:∀ u h,BAt (p < ·) p h (acc++(l.map (zVf w)).flatten)->Keep (p <= ·) H h->k u h) :
  L1 (fun k10=>fun t25_2 h11 =>
    Mpu (zAh .no .lss t25_2 (.int .i64 (l.length:Nat))) fun t26 =>
    Mcd t26 (
     Mpu (ixS 6 v t25_2) fun t27 =>
     Mpu (ldN 6 h11 t27) fun t28 =>
     zBH h11 zAj (zAB prg zAj) fun t6 h12 =>
     Mwr (stN 6 h12 t6 t28) fun h13 =>
     Mpu (fld 0 t6) fun t29 =>
     Mpu (ld1 h13 t29) fun t30 =>
     Mpu (fld 1 t6) fun t31 =>
     Mpu (ldN 5 h13 t31) fun t32 =>
     zAp prg zDo [t32] h13 fun t33 h14 =>
     Mre [(ld1 h14 t29,t30)] (
     zC5 h14 zAz 3 (zFt prg zAz 3 [(0,str w),(1,t30),(2,t33)]) fun t34 h15 =>
     zAp prg zCI [t34] h15 fun t35 h16 =>
     zAp prg zAK [Ptr p 0,t35] h16 fun _ h17 =>
     Mpu (zAh .no .add t25_2 (.int .i64 1)) fun t37 =>
     k10 t37 h17)) (
     k t25_2 h11)) ((.int .i64 0)) H:=by
 refine zHU (fun u h=>∃ i:Nat,i<=l.length/\u = .int .i64 (i:Nat)/\BAt (p < ·) p h (acc++((l.take i).map (zVf w)).flatten)/\Keep (p <= ·) H h) (fun u _=>match u with | .int _ t=>l.length - t.toNat | _=>0) ⟨0,Nat.zero_le _,rfl,by simpa using hb,Keep.refl⟩ ?_
 rintro _ h ⟨i,hi,rfl,hbi,kh⟩ k2 hk2
 have e1:zAh .no .lss (.int .i64 (i:Nat)) (.int .i64 (l.length:Nat))=some (.bool (decide (i<l.length))):=by
  rw[zAi];simp only[zA9];congr 2;rw[decide_eq_decide];omega
 rw[e1,zAa,zAc]
 by_cases hlt:i<l.length
 ·rw[if_pos (by simpa using hlt)]
  have hg:l[i]? = some l[i]:=List.getElem?_eq_getElem hlt
  obtain⟨b,o,hix,hpt,_⟩:=(hv.keep kh fun b hb=>by have:=hP b hb;omega).at (i:=i) (x:=zDa l[i]) (by rw[List.getElem?_map,hg];rfl)
  have hwd:=hw _ (List.getElem_mem hlt)
  have hnd:=hok _ (List.getElem_mem hlt)
  have htk:((l.take (i+1)).map (zVf w)).flatten=((l.take i).map (zVf w)).flatten++zVf w l[i]:=by
   rw[List.take_add_one,hg,List.map_append,List.flatten_append]
   simp only[Option.toList_some,List.map_cons,List.map_nil,List.flatten_cons,List.flatten_nil,List.append_nil]
  generalize l[i]=d at *
  rw[hix .i64,zAa,hpt.agg (zB7 hwd),zAa]
  simp only[zAfN,zAs]
  generalize hH6:h.push (.cells (zDa zNG).toArray zAj (0,0))=h6
  have k6:Keep (fun _=>False) h h6:=by rw[<- hH6];exact Keep.push
  have a6:At h6 h.size (zDa zNG):=by rw[<- hH6];exact At.push
  obtain⟨h7,st7,a7,k7⟩:=a6.st (n:=6) (ds:=zDa d) (zB7 zNm) (zB7 hwd) zID
  have g1:=kh.1
  have g6:=k6.1
  have k17:Keep (fun _=>False) h h7:=k6.fresh k7 fun b hb=>by omega
  have kH7:Keep (p <= ·) H h7:=kh.trans (k17.mono fun _ _ h=>h.elim)
  have d0:ld1 h7 (Ptr h.size 0)=some (str d.name):=a7.ld rfl
  rw[st7,zAm,zAx,zAa,Nat.add_zero,d0,zAa,zAx,zAa,Nat.zero_add,zWn a7 hwd,zAa]
  refine zAk (zXh hwd.want (hO.keep kH7 fun b hb=>by omega) (hT.keep kH7 fun b hb=>by omega)) ?_
  rintro _ h8 ⟨rfl,k8⟩
  have d8:ld1 h8 (Ptr h.size 0)=some (str d.name):=(a7.keep k8 id).ld rfl
  refine⟨d8,?_⟩
  simp only[zAfO,zAV]
  generalize hH9:h8.push (.cells ([w,d.name,zQY d.want].map str).toArray zAz (0,0))=h9
  have k9:Keep (fun _=>False) h8 h9:=by rw[<- hH9];exact Keep.push
  have a9:At h9 h8.size ([w,d.name,zQY d.want].map str):=by rw[<- hH9];exact At.push
  have l1:=zNn hnd
  have l2:=zT5 hwd.want
  refine zAk (zYZ a9 rfl (by simp) (by simp[total];omega)) ?_
  rintro _ h10 ⟨rfl,k10⟩
  have kk:Keep (fun _=>False) h h10:=k17.trans (k8.trans (k9.trans k10))
  have hb10:=hbi.keep kk fun _ _=>id
  have hdl:(zQ0 [w,d.name,zQY d.want]).length<=100:=zNo hw8 hwd hnd
  have hfl:=zM2 (f:=zVf w) (n:=100) (l:=l.take i) fun x hx=>zNo hw8 (hw x (List.mem_of_mem_take hx)) (hok x (List.mem_of_mem_take hx))
  have hti:(l.take i).length<=1048576:=by rw[List.length_take];omega
  have hsz:=kk.1
  refine zAk (zFR hb10 (by
   rw[List.length_append]
   have:(l.take i).length * 100<=1048576 * 100:=Nat.mul_le_mul_right _ hti
   omega) fun b hb=>by show p<b;omega) ?_
  rintro _ h11 ⟨rfl,hb11,k11⟩
  rw[zAG (by omega),zAa]
  refine hk2 _ _ ⟨i+1,by omega,rfl,?_,?_⟩ (by show l.length - (i+1)<l.length - i;omega)
  ·rw[htk,<- List.append_assoc];exact hb11
  ·exact(kh.trans (kk.mono fun _ _ h=>h.elim)).trans (k11.mono fun b _ hb=>by rcases hb with hb | hb <;> omega)
 ·rw[if_neg (by simpa using hlt)]
  rw[List.take_of_length_le (by omega)]at hbi
  exact hk _ _ hbi kh
end Go.Proofs.YticdfkoncnnmmaaGreatDoor
