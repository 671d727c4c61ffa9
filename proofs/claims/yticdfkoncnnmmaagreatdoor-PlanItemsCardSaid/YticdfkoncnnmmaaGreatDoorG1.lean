import Derived.Test.YticdfkoncnnmmaaGreatDoorGO
import Derived.Test.YticdfkoncnnmmaaGreatDoorGN
import Derived.Test.YticdfkoncnnmmaaGreatDoorG0
set_option linter.unusedSimpArgs false
set_option linter.unusedVariables false
namespace Go.Proofs.YticdfkoncnnmmaaGreatDoor
open Go.X Go.X.Diff
set_option maxRecDepth 100000
theorem zVQ:zcells prg zAu=some [str []].toArray:=by kernel_rfl
end Go.Proofs.YticdfkoncnnmmaaGreatDoor
namespace Go.Proofs.YticdfkoncnnmmaaGreatDoor
open Go.X Go.X.Diff
set_option maxRecDepth 100000
structure Dep where
  name:List UInt8
  want:Want
structure Dep.wf(d:Dep):Prop where
  want:d.want.wf
  name:d.name.length≤9223372036854775807
def depC(d:Dep):List Value:=str d.name :: wantC d.want
def zeroD:Dep:=⟨[],zeroW⟩
theorem zJp:zeroD.wf:=⟨zMD,by simp[zeroD]⟩
theorem zA4{d:Dep}(h:d.wf):(depC d).length=6:=by simp[depC,zC8 h.want]
theorem zEM{d:Dep}:∀ c ∈ depC d,c.oneCell'=true:=by
  intro c hc
  rcases List.mem_cons.1 hc with rfl | hc
  · rfl
  · exact zQb c hc
theorem z_Dep:zcells prg zAk=some(depC zeroD).toArray:=by kernel_rfl
theorem k_Dep:structK prg zAk=some([(0,1),(1,5)],(depC zeroD).toArray):=by kernel_rfl
theorem zRp{h:Heap}{q:Nat}{d:Dep}(a:At h q(depC d))(hd:d.wf):ldN 5 h(Ptr q 1)=some(.agg(wantC d.want).toArray):=by
  obtain⟨T,a⟩:=a
  exact ldN_mid(A:=[str d.name])(B:=wantC d.want)(C:=[])(by rw[List.append_nil];exact a)rfl(zC8 hd.want).symm
structure MFile where
  name:List UInt8
  sum:List UInt8
  size:Int
def fileC(f:MFile):List Value:=str f.name :: (bcells f.sum++[.int .i64 f.size])
structure MFile.wf(f:MFile):Prop where
  name:f.name.length≤9223372036854775807
  sum:f.sum.length=32
  size : -9223372036854775808≤f.size∧f.size≤9223372036854775807
theorem zA3{f:MFile}(h:f.wf):(fileC f).length=34:=by simp[fileC,h.sum]
theorem zGz{f:MFile}:∀ c ∈ fileC f,c.oneCell'=true:=by
  intro c hc
  rcases List.mem_cons.1 hc with rfl | hc
  · rfl
  · rcases List.mem_append.1 hc with hc | hc
    · exact bcells_one c hc
    · simp at hc;subst hc;rfl
structure Man where
  name:List UInt8
  ver:Ver
  deps:List Dep
  conf:List Dep
  files:List MFile
structure Man.wf(m:Man):Prop where
  name:m.name.length≤9223372036854775807
  ver:m.ver.wf
  deps:∀ d ∈ m.deps,d.wf
  conf:∀ d ∈ m.conf,d.wf
  files:∀ f ∈ m.files,f.wf
def manC(m:Man)(vd vc vf:Value):List Value:=str m.name :: (verC m.ver++[vd,vc,vf])
theorem zAw{m:Man}{vd vc vf:Value}(h:m.wf):(manC m vd vc vf).length=8:=by simp[manC,zAU h.ver]
structure ManV(P:Nat→Prop)(H:Heap)(m:Man)(vd vc vf:Value):Prop where
  d:SlE 6 P H vd(m.deps.map depC)
  c:SlE 6 P H vc(m.conf.map depC)
  f:SlE 34 P H vf(m.files.map fileC)
  wf:m.wf
theorem ManV.keep{P S:Nat→Prop}{H H':Heap}{m:Man}{vd vc vf:Value}(h:ManV P H m vd vc vf)(k:Keep S H H')(hs:∀ b,P b→¬ S b):ManV P H' m vd vc vf :=
  ⟨h.d.keep k hs,h.c.keep k hs,h.f.keep k hs,h.wf⟩
theorem ManV.one{P:Nat→Prop}{H:Heap}{m:Man}{vd vc vf:Value}(h:ManV P H m vd vc vf):∀ c ∈ manC m vd vc vf,c.oneCell'=true:=by
  intro c hc
  rcases List.mem_cons.1 hc with rfl | hc
  · rfl
  rcases List.mem_append.1 hc with hc | hc
  · exact zEJ c hc
  simp at hc
  rcases hc with rfl | rfl | rfl
  · exact h.d.oneC
  · exact h.c.oneC
  · exact h.f.oneC
section
variable{h:Heap}{q:Nat}{m:Man}{vd vc vf:Value}
theorem zAV(a:At h q(manC m vd vc vf)):ld1 h(Ptr q 0)=some(str m.name):=a.ld rfl
theorem zCq(a:At h q(manC m vd vc vf))(hm:m.wf):ldN 4 h(Ptr q 1)=some(.agg(verC m.ver).toArray):=by
  obtain⟨T,a⟩:=a
  exact ldN_mid(A:=[str m.name])(B:=verC m.ver)(C:=[vd,vc,vf])a rfl(zAU hm.ver).symm
theorem zCr(a:At h q(manC m vd vc vf))(hm:m.wf):ld1 h(Ptr q 5)=some vd∧ld1 h(Ptr q 6)=some vc∧ld1 h(Ptr q 7)=some vf:=by
  have h4:=zAU hm.ver
  refine⟨a.ld ?_,a.ld ?_,a.ld ?_⟩ <;> simp[manC,List.getElem?_append_right,h4]
theorem zK8(a:At h q(manC m vd vc vf))(hm:m.wf):ldN 8 h(Ptr q 0)=some(.agg(manC m vd vc vf).toArray):=a.ldN(zAw hm)
end
def riseAt(l:List(List UInt8))(i:Nat):Bool:=decide(i=0) || lessB(l.getD(i - 1) [])(l.getD i [])
def riseF(l:List(List UInt8)):Bool:=(List.range l.length).all(riseAt l)
theorem zRq{l:List(List UInt8)}{i:Nat}(hi:i<l.length)(h:riseAt l i=false):riseF l=false:=by
  unfold riseF
  rw[List.all_eq_false];exact⟨i,by simpa using hi,by simp[h]⟩
theorem zQd{l:List(List UInt8)}{i:Nat}(h:(List.range i).all(riseAt l)=true)(hb:riseAt l i=true):(List.range(i+1)).all(riseAt l)=true:=by
  rw[List.range_succ,List.all_append,h];simp[hb]
theorem zUi{H:Heap}{d:Dep}:HCalls prg zB3 [.agg(depC d).toArray] H fun u H'=>u=str d.name∧Keep(fun _=>False)H H':=by
  apply zJ3
  unfold zIF
  simp only[zAC,zAp]
  have a:At(H.push(.cells(depC d).toArray zAk(0,0)))H.size(depC d):=At.push
  have d0:ld1(H.push(.cells(depC d).toArray zAk(0,0)))(Ptr H.size 0)=some(str d.name):=a.ld rfl
  rw[zAq,zAa,Nat.add_zero,d0,zAa]
  exact⟨rfl,Keep.push⟩
theorem zUj{P:Nat→Prop}{H:Heap}{v:Value}{l:List Dep}(hv:SlE 6 P H v(l.map depC))(hw:∀ d ∈ l,d.wf)(hl:l.length≤1099511627776) :
    HCalls prg zCC [v,.func(.func zB3) #[] #[]] H fun u H'=>u = .bool(riseF(l.map(·.name)))∧Keep(fun _=>False)H H':=by
  apply zGg
  unfold zEa
  have hlen:=hv.len
  rw[List.length_map]at hlen
  have hln:(l.map(·.name)).length=l.length:=by simp
  have hcall:∀ (d:Dep)(h:Heap)(k:Value→Heap→Prop),(∀ h',Keep(fun _=>False)h h'→k(str d.name)h')→Mcallv prg(.func(.func zB3) #[] #[]) [.agg(depC d).toArray] h k:=fun d h k hk =>
    .inl⟨zB3,#[],#[],rfl,by kernel_rfl,HCalls.mono(R:=fun u H'=>u=str d.name∧Keep(fun _=>False)h H')(zUi(d:=d))fun u h' hR=>by obtain⟨rfl,k'⟩:=hR;exact hk h' k'⟩
  refine J1_i(fun _ h=>riseF(l.map(·.name))=true∧Keep(fun _=>False)H h)(fun k hk=>?_)?_
  · refine L1_i(fun u h=>∃ i:Nat,1≤i∧u = .int .i64(i:Nat)∧(List.range(min i l.length)).all(riseAt(l.map(·.name)))=true∧Keep(fun _=>False)H h)(fun u _=>match u with | .int _ t=>l.length - t.toNat | _=>0)⟨1,Nat.le_refl _,rfl,?_,Keep.refl⟩?_
    · by_cases h0:l.length=0
      · rw[h0];rfl
      · rw[Nat.min_eq_left(by omega)];rfl
    rintro _ h⟨i,hi,rfl,hall,kh⟩k2 hk2
    have e1:binV .no .lss(.int .i64(i:Nat))(.int .i64(l.length:Nat))=some(.bool(decide(i<l.length))):=by
      rw[zAg];simp only[intV];congr 2;rw[decide_eq_decide];omega
    rw[hlen,zAa,e1,zAa,zAb]
    by_cases hlt:i<l.length
    · rw[if_pos(by simpa using hlt)]
      have hg:l[i]? = some l[i]:=List.getElem?_eq_getElem hlt
      have hg':l[i - 1]? = some(l[i - 1]'(by omega)):=List.getElem?_eq_getElem(by omega)
      have hvh:=hv.keep kh fun _ _=>id
      obtain⟨b,o,hix,hpt,_⟩:=hvh.at(i:=i)(x:=depC l[i])(by rw[List.getElem?_map,hg];rfl)
      obtain⟨b',o',hix',hpt',_⟩:=hvh.at(i:=i - 1)(x:=depC(l[i - 1]'(by omega)))(by rw[List.getElem?_map,hg'];rfl)
      have hwd:=hw _(List.getElem_mem hlt)
      have hwd':=hw _(List.getElem_mem(show i - 1<l.length by omega))
      have hra:riseAt(l.map(·.name))i=lessB(l[i - 1]'(by omega)).name l[i].name:=by
        have h0:((l.map(·.name)).getD(i - 1) [])=(l[i - 1]'(by omega)).name:=by simp[List.getD,hg']
        have h1:((l.map(·.name)).getD i [])=l[i].name:=by simp[List.getD,hg]
        unfold riseAt
        rw[h0,h1,decide_eq_false(by omega)];rfl
      generalize l[i]=d at *
      generalize(l[i - 1]'(by omega))=d' at *
      have e2:binV .no .sub(.int .i64(i:Nat))(.int .i64 1)=some(.int .i64((i - 1:Nat):Int)):=by
        rw[zAg];simp only[intV];rw[zAx(by omega)(by omega)];congr 2;omega
      rw[e2,zAa,hix' .i64,zAa,hpt'.agg(zA4 hwd'),zAa,hix .i64,zAa,hpt.agg(zA4 hwd),zAa]
      refine hcall d' h _ fun h5 k5=>?_
      refine⟨(hpt.keep k5 id).agg(zA4 hwd),?_⟩
      refine hcall d h5 _ fun h6 k6=>?_
      have hge:binV .no .geq(str d'.name)(str d.name)=some(.bool(!lessB d'.name d.name)):=by rw[zCg];exact zQ5
      rw[hge,zAa,zAb]
      have kk:=kh.trans(k5.trans k6)
      cases hb:lessB d'.name d.name
      · rw[if_pos(show(!false)=true from rfl)]
        exact⟨by rw[zRq(i:=i)(by rw[hln];exact hlt)(by rw[hra,hb])],kk⟩
      · rw[if_neg(by decide),zAv(by omega),zAa]
        refine hk2 _ _⟨i+1,by omega,rfl,?_,kk⟩(by show l.length - (i+1)<l.length - i;omega)
        rw[Nat.min_eq_left(by omega)]at hall ⊢
        exact zQd hall(by rw[hra,hb])
    · rw[if_neg(by simpa using hlt)]
      refine hk _ _⟨?_,kh⟩
      rw[Nat.min_eq_right(by omega)]at hall
      unfold riseF
      rw[hln];exact hall
  · rintro _ h⟨h1,h2⟩
    exact⟨by rw[h1],h2⟩
def depAt(own:List UInt8)(d:Dep):Bool:=nameOk d.name && !decide(d.name=own) && wantOk d.want
def depsOk(own:List UInt8)(l:List Dep):Bool:=l.all(depAt own) && decide(l.length≤16) && riseF(l.map(·.name))
theorem zTs{own:List UInt8}{l:List Dep}{d:Dep}(hd:d ∈ l)(h:depAt own d=false):depsOk own l=false:=by
  unfold depsOk
  rw[List.all_eq_false.2⟨d,hd,by simp[h]⟩];rfl
theorem zUk{P:Nat→Prop}{H:Heap}{m:Man}{vd vc vf v:Value}{l:List Dep}(hv:SlE 6 P H v(l.map depC))(hw:∀ d ∈ l,d.wf)(hO:OpsT H)(hl:l.length≤1099511627776) :
    HCalls prg zCA [.agg(manC m vd vc vf).toArray,v] H fun u H'=>u = .bool(depsOk m.name l)∧Keep(fun _=>False)H H':=by
  apply zIj
  unfold zF7
  have hlen:=hv.len
  rw[List.length_map]at hlen
  simp only[zAC,zAp]
  generalize hH1:H.push(.cells(manC m vd vc vf).toArray zAc(0,0))=H1
  have k1:Keep(fun _=>False)H H1:=by rw[← hH1];exact Keep.push
  have a1:At H1 H.size(manC m vd vc vf):=by rw[← hH1];exact At.push
  have s1:H1.size=H.size+1:=by rw[← hH1];simp
  refine J1_i(fun _ h=>l.all(depAt m.name)=true∧Keep(fun _=>False)H1 h)(fun k hk=>?_)?_
  · rw[hlen,zAa]
    refine L1_i(fun u h=>∃ i:Nat,i≤l.length∧u = .int .i64(i:Nat)∧(l.take i).all(depAt m.name)=true∧Keep(fun _=>False)H1 h)(fun u _=>match u with | .int _ t=>l.length - t.toNat | _=>0)⟨0,Nat.zero_le _,rfl,rfl,Keep.refl⟩?_
    rintro _ h⟨i,hi,rfl,hall,kh⟩k2 hk2
    have e1:binV .no .lss(.int .i64(i:Nat))(.int .i64(l.length:Nat))=some(.bool(decide(i<l.length))):=by
      rw[zAg];simp only[intV];congr 2;rw[decide_eq_decide];omega
    rw[e1,zAa,zAb]
    by_cases hlt:i<l.length
    · rw[if_pos(by simpa using hlt)]
      have hg:l[i]? = some l[i]:=List.getElem?_eq_getElem hlt
      have hvh:=hv.keep(k1.trans kh)fun _ _=>id
      obtain⟨b,o,hix,hpt,_⟩:=hvh.at(i:=i)(x:=depC l[i])(by rw[List.getElem?_map,hg];rfl)
      have hwd:=hw _(List.getElem_mem hlt)
      have hmem:l[i] ∈ l:=List.getElem_mem hlt
      have hnext:depAt m.name l[i]=true→(l.take(i+1)).all(depAt m.name)=true:=fun hb=>by
        rw[List.take_add_one,hg,List.all_append,hall];simp[hb]
      generalize l[i]=d at *
      rw[hix .i64,zAa,hpt.agg(zA4 hwd),zAa]
      simp only[z_Dep,zAp]
      generalize hH6:h.push(.cells(depC zeroD).toArray zAk(0,0))=h6
      have k6:Keep(fun _=>False)h h6:=by rw[← hH6];exact Keep.push
      have a6:At h6 h.size(depC zeroD):=by rw[← hH6];exact At.push
      obtain⟨h7,st7,a7,k7⟩:=a6.st(n:=6)(ds:=depC d)(zA4 zJp)(zA4 hwd)zEM
      have g1:=kh.1
      have k17:Keep(fun _=>False)H1 h7:=(kh.trans k6).fresh k7 fun b hb=>by omega
      have d0:ld1 h7(Ptr h.size 0)=some(str d.name):=a7.ld rfl
      rw[st7,zAi,zAq,zAa,Nat.add_zero,d0,zAa]
      refine zAf(zO3 hwd.name)?_
      rintro _ h8⟨rfl,k8⟩
      have a8:=a7.keep k8 id
      have k18:=k17.trans k8
      have m8:=zAV(a1.keep k18 id)
      have d8:ld1 h8(Ptr h.size 0)=some(str d.name):=a8.ld rfl
      have w8:=zRp a8 hwd
      have hO8:=hO.keep(k1.trans k18)fun _ h=>h.elim
      have eqn:binV .no .eql(str d.name)(str m.name)=some(.bool(decide(d.name=m.name))):=zAX
      have bad:depAt m.name d=false→∀ h',Keep(fun _=>False)h8 h'→Value.bool false = .bool(depsOk m.name l)∧Keep(fun _=>False)H h':=fun hb h' k'=>⟨by rw[zTs hmem hb],k1.trans(k18.trans k')⟩
      cases hn:nameOk d.name
      · simp only[zAq,Nat.add_zero,Nat.zero_add,zAl,Bool.not_true,Bool.not_false,zAh,zAj,zAd,zAb,zAa,if_true,if_false,Bool.false_eq_true,Bool.true_eq_false,decide_true,decide_false,reduceCtorEq,J1_eq,ex20,ex21,ex30,ex31,ex32,zAo,zAm]
        exact bad(by simp[depAt,hn])_ Keep.refl
      cases hq:decide(d.name=m.name)
      · simp only[zAq,Nat.add_zero,Nat.zero_add,d8,m8,eqn,hq,w8,zAl,Bool.not_true,Bool.not_false,zAh,zAj,zAd,zAb,zAa,if_true,if_false,Bool.false_eq_true,Bool.true_eq_false,decide_true,decide_false,reduceCtorEq,J1_eq,ex20,ex21,ex30,ex31,ex32,zAo,zAm]
        refine zAf(zHu hwd.want hO8)?_
        rintro _ h9⟨rfl,k9⟩
        cases hk9:wantOk d.want
        · simp only[zAl,Bool.not_true,Bool.not_false,zAh,zAj,zAd,zAb,zAa,if_true,if_false,Bool.false_eq_true,Bool.true_eq_false,decide_true,decide_false,reduceCtorEq,J1_eq,ex20,ex21,ex30,ex31,ex32,zAo,zAm]
          exact bad(by simp[depAt,hk9])_ k9
        · simp only[zAl,Bool.not_true,Bool.not_false,zAh,zAj,zAd,zAb,zAa,if_true,if_false,Bool.false_eq_true,Bool.true_eq_false,decide_true,decide_false,reduceCtorEq,J1_eq,ex20,ex21,ex30,ex31,ex32,zAo,zAm]
          rw[zAv(by omega),zAa]
          exact hk2 _ _⟨i+1,by omega,rfl,hnext(by simp[depAt,hn,hk9,of_decide_eq_false hq]),k18.trans k9⟩(by show l.length - (i+1)<l.length - i;omega)
      · simp only[zAq,Nat.add_zero,Nat.zero_add,d8,m8,eqn,hq,zAl,Bool.not_true,Bool.not_false,zAh,zAj,zAd,zAb,zAa,if_true,if_false,Bool.false_eq_true,Bool.true_eq_false,decide_true,decide_false,reduceCtorEq,J1_eq,ex20,ex21,ex30,ex31,ex32,zAo,zAm]
        exact bad(by simp[depAt,of_decide_eq_true hq])_ Keep.refl
    · rw[if_neg(by simpa using hlt)]
      refine hk _ _⟨?_,kh⟩
      rwa [List.take_of_length_le(by omega)]at hall
  · rintro _ h⟨hall,kh⟩
    have e3:binV .no .leq(.int .i64(l.length:Nat))(.int .i64 16)=some(.bool(decide(l.length≤16))):=by
      rw[zAg];simp only[intV];congr 2;rw[decide_eq_decide];omega
    have kk:=k1.trans kh
    rw[hlen,zAa,e3,zAa]
    unfold depsOk
    rw[hall]
    cases h16:decide(l.length≤16)
    · simp only[zAl,Bool.not_true,Bool.not_false,zAh,zAj,zAd,zAb,zAa,if_true,if_false,Bool.false_eq_true,Bool.true_eq_false,decide_true,decide_false,reduceCtorEq,J1_eq,ex20,ex21,ex30,ex31,ex32,zAo,zAm,Bool.true_and,Bool.false_and]
      exact⟨by trivial,kk⟩
    · simp only[zAl,Bool.not_true,Bool.not_false,zAh,zAj,zAd,zAb,zAa,if_true,if_false,Bool.false_eq_true,Bool.true_eq_false,decide_true,decide_false,reduceCtorEq,J1_eq,ex20,ex21,ex30,ex31,ex32,zAo,zAm,Bool.true_and]
      refine zAf(zUj(hv.keep kk fun _ _=>id)hw hl)?_
      rintro _ h2⟨rfl,k2⟩
      simp only[zAl,Bool.not_true,Bool.not_false,zAh,zAj,zAd,zAb,zAa,if_true,if_false,Bool.false_eq_true,Bool.true_eq_false,decide_true,decide_false,reduceCtorEq,J1_eq,ex20,ex21,ex30,ex31,ex32,zAo,zAm]
      exact⟨by trivial,kk.trans k2⟩
end Go.Proofs.YticdfkoncnnmmaaGreatDoor
namespace Go.Proofs.YticdfkoncnnmmaaGreatDoor
open Go.X Go.X.Diff
set_option maxRecDepth 100000
def manOk(m:Man):Bool:=nameOk m.name && verOk m.ver && depsOk m.name m.deps && depsOk m.name m.conf
def lineF(l:List(List UInt8)):List UInt8:=joinF [32] l++[10]
theorem zW2{h:Heap}{q:Nat}{l:List(List UInt8)}{n:Nat}(a:At h q(l.map str))(hn:n=l.length):SlE 1(· = q)h(.slice(some⟨q,0,none⟩)n n)(strs l):=by
  subst hn
  exact⟨⟨_,l.length,by rw[zHN],by rw[zHN];exact Nat.le_refl _,.inr⟨q,0,rfl,rfl,by rw[zGK];exact a.pt⟩⟩,zJb,zJD fun v hv=>by obtain⟨x,_,rfl⟩:=List.mem_map.1 hv;rfl⟩
theorem zRr(s:List UInt8):∀ l:List(List UInt8),(joinF s l).length≤total l+l.length * s.length
  | []=>by simp[joinF]
  | x :: xs=>by
    have:∀ ys:List(List UInt8),((ys.map(s ++ ·)).flatten).length=total ys+ys.length * s.length:=by
      intro ys
      induction ys with
      | nil=>simp[total]
      | cons y ys ih =>
        rw[List.map_cons,List.flatten_cons,List.length_append,List.length_append,ih]
        unfold total
        rw[List.flatten_cons,List.length_append,List.length_cons,Nat.succ_mul];omega
    unfold joinF
    rw[List.length_append,this]
    unfold total
    rw[List.flatten_cons,List.length_append,List.length_cons,Nat.succ_mul];omega
theorem zRs{H:Heap}{q n:Nat}{l:List(List UInt8)}(a:At H q(l.map str))(hn:n=l.length)(h4:l.length≤100)(ht:total l≤1099511627776) :
    HCalls prg zBZ [.slice(some⟨q,0,none⟩)n n] H fun u H'=>u=str(lineF l)∧Keep(fun _=>False)H H':=by
  apply zLM
  unfold zKZ
  refine zAf(zT9(sep:=[32])(zW2 a hn)(fun b hb=>by subst hb;exact a.lt)(by omega)(by simp)ht)?_
  rintro _ h1⟨rfl,k1⟩
  have hj:=zRr [32] l
  have e:binV .no .add(str(joinF [32] l))(.string⟨#[10]⟩)=some(str(joinF [32] l++[10])):=zMd(b:=[10])(by simp at hj ⊢;omega)
  rw[e,zAa]
  exact⟨rfl,k1⟩
theorem bsl3{a b c:ByteArray}:bslV prg zAu 3 [(0,.string a),(1,.string b),(2,.string c)]=some #[.string a,.string b,.string c]:=by kernel_rfl
def wPackage:List UInt8:=[112,97,99,107,97,103,101]
def wNeeds:List UInt8:=[110,101,101,100,115]
def wRefuses:List UInt8:=[114,101,102,117,115,101,115]
def depL(w:List UInt8)(d:Dep):List UInt8:=lineF [w,d.name,wantS d.want]
def manS(m:Man):List UInt8:=lineF [wPackage,m.name,showF m.ver]++((m.deps.map(depL wNeeds)).flatten++(m.conf.map(depL wRefuses)).flatten)
theorem nameOk_len{l:List UInt8}(h:nameOk l=true):l.length≤32:=by
  unfold nameOk at h
  simp only[Bool.and_eq_true,decide_eq_true_eq]at h
  exact h.1.1.2
theorem zLw{l:List(List UInt8)}:(lineF l).length≤total l+l.length+1:=by
  have:=zRr [32] l
  unfold lineF
  rw[List.length_append];simp at this ⊢;omega
end Go.Proofs.YticdfkoncnnmmaaGreatDoor
namespace Go.Proofs.YticdfkoncnnmmaaGreatDoor
open Go.X Go.X.Diff
set_option maxRecDepth 100000
theorem zQe{w:Want}(h:w.wf):(wantS w).length≤42:=by
  unfold wantS
  cases hok:wantOk w
  · simp
  cases hs:decide(w.op=[42])
  · have hm:=(zQc hok hs).1
    have:∀ x ∈ opsR,x.length≤2:=by decide
    have h1:=this _ hm
    have h2:=zLv(v:=w.ver)h.ver.p3
    simp only[cond_true,cond_false,List.length_append];omega
  · simp
theorem zJq{w:List UInt8}{d:Dep}(hw:w.length≤10)(hd:d.wf)(hn:nameOk d.name=true):(depL w d).length≤100:=by
  have h1:=nameOk_len hn
  have h2:=zQe hd.want
  have:=zLw(l:=[w,d.name,wantS d.want])
  unfold depL
  simp[total]at this ⊢;omega
theorem zH5{α:Type}{f:α→List UInt8}{n:Nat}:∀ {l:List α},(∀ x ∈ l,(f x).length≤n)→(l.map f).flatten.length≤l.length * n
  | [],_=>by simp
  | x :: l,h=>by
    have ih:=zH5(f:=f)(n:=n)(l:=l)fun y hy=>h y(List.mem_cons_of_mem _ hy)
    have:=h x(List.mem_cons_self ..)
    rw[List.map_cons,List.flatten_cons,List.length_append,List.length_cons,Nat.succ_mul];omega
theorem bsl3s{a b c:List UInt8}:bslV prg zAu 3 [(0,str a),(1,str b),(2,str c)]=some([a,b,c].map str).toArray:=bsl3
theorem zQf{P:Nat→Prop}{p:Nat}{H:Heap}{v:Value}{l:List Dep}{w acc:List UInt8}{k:Value→Heap→Prop}
    (hv:SlE 6 P H v(l.map depC))(hP:∀ b,P b→b<p)(hb:BAt(p < ·)p H acc)(hp:p<H.size)(hw:∀ d ∈ l,d.wf)(hok:∀ d ∈ l,nameOk d.name=true)(hl:l.length≤1048576)(hw8:w.length≤10)(hacc:acc.length≤1099511627776)
    (hO:OpsT H)(hT:PowT H)(hN:NG≤p)
    (hk:∀ u h,BAt(p < ·)p h(acc++(l.map(depL w)).flatten)→Keep(p ≤ ·)H h→k u h) :
    L1(fun k10=>fun t25_2 h11 =>
        Mpu(binV .no .lss t25_2(.int .i64(l.length:Nat)))fun t26 =>
        Mcd t26(
          Mpu(ixS 6 v t25_2)fun t27 =>
          Mpu(ldN 6 h11 t27)fun t28 =>
          Mnew h11 zAk(zcells prg zAk)fun t6 h12 =>
          Mwr(stN 6 h12 t6 t28)fun h13 =>
          Mpu(fld 0 t6)fun t29 =>
          Mpu(ld1 h13 t29)fun t30 =>
          Mpu(fld 1 t6)fun t31 =>
          Mpu(ldN 5 h13 t31)fun t32 =>
          Mcall prg zCU [t32] h13 fun t33 h14 =>
          Mre [(ld1 h14 t29,t30)](
          Mnews h14 zAu 3(bslV prg zAu 3 [(0,str w),(1,t30),(2,t33)])fun t34 h15 =>
          Mcall prg zBZ [t34] h15 fun t35 h16 =>
          Mcall prg zAI [Ptr p 0,t35] h16 fun _ h17 =>
          Mpu(binV .no .add t25_2(.int .i64 1))fun t37 =>
          k10 t37 h17))(
          k t25_2 h11))((.int .i64 0))H:=by
  refine L1_i(fun u h=>∃ i:Nat,i≤l.length∧u = .int .i64(i:Nat)∧BAt(p < ·)p h(acc++((l.take i).map(depL w)).flatten)∧Keep(p ≤ ·)H h)(fun u _=>match u with | .int _ t=>l.length - t.toNat | _=>0)⟨0,Nat.zero_le _,rfl,by simpa using hb,Keep.refl⟩?_
  rintro _ h⟨i,hi,rfl,hbi,kh⟩k2 hk2
  have e1:binV .no .lss(.int .i64(i:Nat))(.int .i64(l.length:Nat))=some(.bool(decide(i<l.length))):=by
    rw[zAg];simp only[intV];congr 2;rw[decide_eq_decide];omega
  rw[e1,zAa,zAb]
  by_cases hlt:i<l.length
  · rw[if_pos(by simpa using hlt)]
    have hg:l[i]? = some l[i]:=List.getElem?_eq_getElem hlt
    obtain⟨b,o,hix,hpt,_⟩:=(hv.keep kh fun b hb=>by have:=hP b hb;omega).at(i:=i)(x:=depC l[i])(by rw[List.getElem?_map,hg];rfl)
    have hwd:=hw _(List.getElem_mem hlt)
    have hnd:=hok _(List.getElem_mem hlt)
    have htk:((l.take(i+1)).map(depL w)).flatten=((l.take i).map(depL w)).flatten++depL w l[i]:=by
      rw[List.take_add_one,hg,List.map_append,List.flatten_append]
      simp only[Option.toList_some,List.map_cons,List.map_nil,List.flatten_cons,List.flatten_nil,List.append_nil]
    generalize l[i]=d at *
    rw[hix .i64,zAa,hpt.agg(zA4 hwd),zAa]
    simp only[z_Dep,zAp]
    generalize hH6:h.push(.cells(depC zeroD).toArray zAk(0,0))=h6
    have k6:Keep(fun _=>False)h h6:=by rw[← hH6];exact Keep.push
    have a6:At h6 h.size(depC zeroD):=by rw[← hH6];exact At.push
    obtain⟨h7,st7,a7,k7⟩:=a6.st(n:=6)(ds:=depC d)(zA4 zJp)(zA4 hwd)zEM
    have g1:=kh.1
    have g6:=k6.1
    have k17:Keep(fun _=>False)h h7:=k6.fresh k7 fun b hb=>by omega
    have kH7:Keep(p ≤ ·)H h7:=kh.trans(k17.mono fun _ _ h=>h.elim)
    have d0:ld1 h7(Ptr h.size 0)=some(str d.name):=a7.ld rfl
    rw[st7,zAi,zAq,zAa,Nat.add_zero,d0,zAa,zAq,zAa,Nat.zero_add,zRp a7 hwd,zAa]
    refine zAf(zTq hwd.want(hO.keep kH7 fun b hb=>by omega)(hT.keep kH7 fun b hb=>by omega))?_
    rintro _ h8⟨rfl,k8⟩
    have d8:ld1 h8(Ptr h.size 0)=some(str d.name):=(a7.keep k8 id).ld rfl
    refine⟨d8,?_⟩
    simp only[bsl3s,zAJ]
    generalize hH9:h8.push(.cells([w,d.name,wantS d.want].map str).toArray zAu(0,0))=h9
    have k9:Keep(fun _=>False)h8 h9:=by rw[← hH9];exact Keep.push
    have a9:At h9 h8.size([w,d.name,wantS d.want].map str):=by rw[← hH9];exact At.push
    have l1:=nameOk_len hnd
    have l2:=zQe hwd.want
    refine zAf(zRs a9 rfl(by simp)(by simp[total];omega))?_
    rintro _ h10⟨rfl,k10⟩
    have kk:Keep(fun _=>False)h h10:=k17.trans(k8.trans(k9.trans k10))
    have hb10:=hbi.keep kk fun _ _=>id
    have hdl:(lineF [w,d.name,wantS d.want]).length≤100:=zJq hw8 hwd hnd
    have hfl:=zH5(f:=depL w)(n:=100)(l:=l.take i)fun x hx=>zJq hw8(hw x(List.mem_of_mem_take hx))(hok x(List.mem_of_mem_take hx))
    have hti:(l.take i).length≤1048576:=by rw[List.length_take];omega
    have hsz:=kk.1
    refine zAf(zEh hb10(by
      rw[List.length_append]
      have:(l.take i).length * 100≤1048576 * 100:=Nat.mul_le_mul_right _ hti
      omega)fun b hb=>by show p<b;omega)?_
    rintro _ h11⟨rfl,hb11,k11⟩
    rw[zAv(by omega),zAa]
    refine hk2 _ _⟨i+1,by omega,rfl,?_,?_⟩(by show l.length - (i+1)<l.length - i;omega)
    · rw[htk,← List.append_assoc];exact hb11
    · exact(kh.trans(kk.mono fun _ _ h=>h.elim)).trans(k11.mono fun b _ hb=>by rcases hb with hb | hb <;> omega)
  · rw[if_neg(by simpa using hlt)]
    rw[List.take_of_length_le(by omega)]at hbi
    exact hk _ _ hbi kh
end Go.Proofs.YticdfkoncnnmmaaGreatDoor
