import Derived.Test.YticdfkoncnnmmaaGreatDoorG4
import Derived.Test.YticdfkoncnnmmaaGreatDoorGM
set_option linter.unusedSimpArgs false
set_option linter.unusedVariables false
namespace Go.Proofs.YticdfkoncnnmmaaGreatDoor.Came
open Go.X
set_option maxRecDepth 100000
theorem zVR{q:List(List Value)}(h:∀ x ∈ q,∃ y:Dep,y.wf∧x=depC y):∃ ys:List Dep,q=ys.map depC∧∀ y ∈ ys,y.wf:=by
  induction q with
  | nil=>exact⟨[],rfl,fun y h=>by cases h⟩
  | cons x q ih =>
    obtain⟨ys,hy,hw⟩:=ih fun x hx=>h x(by simp[hx])
    obtain⟨y,yw,rfl⟩:=h x(by simp)
    exact⟨y :: ys,by rw[hy];rfl,fun z hz=>by
      rcases List.mem_cons.1 hz with rfl | hz
      · exact yw
      · exact hw z hz⟩
theorem zUm{q:List(List Value)}(h:∀ x ∈ q,∃ y:MFile,y.wf∧x=fileC y):∃ ys:List MFile,q=ys.map fileC∧∀ y ∈ ys,y.wf:=by
  induction q with
  | nil=>exact⟨[],rfl,fun y h=>by cases h⟩
  | cons x q ih =>
    obtain⟨ys,hy,hw⟩:=ih fun x hx=>h x(by simp[hx])
    obtain⟨y,yw,rfl⟩:=h x(by simp)
    exact⟨y :: ys,by rw[hy];rfl,fun z hz=>by
      rcases List.mem_cons.1 hz with rfl | hz
      · exact yw
      · exact hw z hz⟩
theorem f_Dep:flds zAk [(0,zAu),(1,zAB)]=true:=by kernel_rfl
theorem zUn:prg.cellsOf zAk=6:=by kernel_rfl
theorem zX0{w:World}{d:Nat}{cs:List Value}(h:Shp prg w d zAk cs):∃ x:Dep,x.wf∧cs=depC x:=by
  obtain⟨d',hl,hfl⟩:=zK7 f_Dep h
  rw[zUn]at hl
  have h0:=hfl 0 0 zAu rfl
  have h1:=hfl 1 1 zAB rfl
  rw[zH4]at h0;rw[zSI]at h1
  obtain⟨s,hs,hsl⟩:=zLX zJo h0
  obtain⟨n,hsn,hnl⟩:=str_of hsl
  obtain⟨v,hv,hvc⟩:=zW1 h1
  refine⟨⟨n,v⟩,⟨hv,hnl⟩,?_⟩
  have e1:cs=(cs.drop 0).take 1++(cs.drop 1).take 5:=by
    rw[List.take_of_length_le(l:=cs.drop 1)(by simp;omega),List.drop_zero]
    exact(List.take_append_drop 1 cs).symm
  rw[e1,hs,hvc,hsn];rfl
theorem zX1:flds zAt [(0,zAu),(1,zAF),(33,T_int)]=true:=by kernel_rfl
theorem zSJ:prg.cellsOf zAt=34:=by kernel_rfl
theorem zX2:prg.cellsOf T_int=1:=by kernel_rfl
theorem zW6{w:World}{d:Nat}{cs:List Value}(h:Shp prg w d zAt cs):∃ x:MFile,x.wf∧cs=fileC x:=by
  obtain⟨d',hl,hfl⟩:=zK7 zX1 h
  rw[zSJ]at hl
  have h0:=hfl 0 0 zAu rfl
  have h1:=hfl 1 1 zAF rfl
  have h2:=hfl 2 33 T_int rfl
  rw[zH4]at h0;rw[zSG]at h1;rw[zX2]at h2
  obtain⟨s,hs,hsl⟩:=zLX zJo h0
  obtain⟨n,hsn,hnl⟩:=str_of hsl
  obtain⟨e,he,hu,hc⟩:=zXX
  obtain⟨l,hll,hlc,hlw⟩:=zQ1 he hu hc zSG h1
  obtain⟨r,hr,hrc⟩:=zTi hlw
  obtain⟨k,hk,hkw⟩:=zSy u_int h2
  refine⟨⟨n,r,k⟩,⟨hnl,by show r.length=32;omega,zW0 hkw⟩,?_⟩
  have e1:cs=(cs.drop 0).take 1++((cs.drop 1).take 32++(cs.drop 33).take 1):=by
    rw[List.take_of_length_le(l:=cs.drop 33)(by simp;omega),List.drop_zero]
    have h33:cs.drop 33=(cs.drop 1).drop 32:=by rw[List.drop_drop]
    rw[h33,List.take_append_drop]
    exact(List.take_append_drop 1 cs).symm
  rw[e1,hs,hlc,hrc,hk,hsn];rfl
theorem zX3:prg.underlying zA2=some(.slice zAk):=by kernel_rfl
theorem zW7:prg.underlying zDu=some(.slice zAt):=by kernel_rfl
theorem zSK{w:World}{d:Nat}{cs:List Value}(hl:cs.length=1)(h:Shp prg w d zA2 cs):∃ v,cs=[v]∧∃ xs:List Dep,SlE 6(· < w.heap.size)w.heap v(xs.map depC)∧∀ x ∈ xs,x.wf:=by
  match cs,hl with
  | [v],_ =>
    refine⟨v,rfl,?_⟩
    cases d with
    | zero=>exact h.elim
    | succ d =>
      simp only[Shp,zX3]at h
      rcases h with h | ⟨a,len,cap,hv,hle,hcap,hel⟩
      · obtain rfl:v = .slice none 0 0:=by simpa using h
        exact⟨[],SlE.nil,fun x h=>by cases h⟩
      · obtain rfl:v = .slice(some a)len cap:=by simpa using hv
        rw[zUn]at hel
        obtain⟨q,hq,hs,hqi⟩:=zKN(n:=6)(q:=fun cs=>∃ y:Dep,y.wf∧cs=depC y)(by omega)hle(fun cs⟨y,_,e⟩c hc=>by subst e;exact zEM c hc)fun i hi=>by
          obtain⟨cs',h1,h2⟩:=hel i hi
          exact⟨cs',h1,zX0 h2⟩
        obtain⟨ys,rfl,hw⟩:=zVR hqi
        exact⟨ys,hs,hw⟩
theorem zVS{w:World}{d:Nat}{cs:List Value}(hl:cs.length=1)(h:Shp prg w d zDu cs):∃ v,cs=[v]∧∃ xs:List MFile,SlE 34(· < w.heap.size)w.heap v(xs.map fileC)∧∀ x ∈ xs,x.wf:=by
  match cs,hl with
  | [v],_ =>
    refine⟨v,rfl,?_⟩
    cases d with
    | zero=>exact h.elim
    | succ d =>
      simp only[Shp,zW7]at h
      rcases h with h | ⟨a,len,cap,hv,hle,hcap,hel⟩
      · obtain rfl:v = .slice none 0 0:=by simpa using h
        exact⟨[],SlE.nil,fun x h=>by cases h⟩
      · obtain rfl:v = .slice(some a)len cap:=by simpa using hv
        rw[zSJ]at hel
        obtain⟨q,hq,hs,hqi⟩:=zKN(n:=34)(q:=fun cs=>∃ y:MFile,y.wf∧cs=fileC y)(by omega)hle(fun cs⟨y,_,e⟩c hc=>by subst e;exact zGz c hc)fun i hi=>by
          obtain⟨cs',h1,h2⟩:=hel i hi
          exact⟨cs',h1,zW6 h2⟩
        obtain⟨ys,rfl,hw⟩:=zUm hqi
        exact⟨ys,hs,hw⟩
theorem f_Man:flds zAc [(0,zAu),(1,zAn),(5,zA2),(6,zA2),(7,zDu)]=true:=by kernel_rfl
theorem zUo:prg.cellsOf zAc=8:=by kernel_rfl
theorem zW8:prg.cellsOf zA2=1:=by kernel_rfl
theorem zVT:prg.cellsOf zDu=1:=by kernel_rfl
theorem zX4{w:World}{d:Nat}{cs:List Value}(h:Shp prg w d zAc cs):∃ (m:Man)(vd vc vf:Value),ManV(· < w.heap.size)w.heap m vd vc vf∧cs=manC m vd vc vf:=by
  obtain⟨d',hl,hfl⟩:=zK7 f_Man h
  rw[zUo]at hl
  have h0:=hfl 0 0 zAu rfl
  have h1:=hfl 1 1 zAn rfl
  have h2:=hfl 2 5 zA2 rfl
  have h3:=hfl 3 6 zA2 rfl
  have h4:=hfl 4 7 zDu rfl
  rw[zH4]at h0;rw[zRn]at h1;rw[zW8]at h2 h3;rw[zVT]at h4
  obtain⟨s,hs,hsl⟩:=zLX zJo h0
  obtain⟨n,hsn,hnl⟩:=str_of hsl
  obtain⟨v,hv,hvc⟩:=zUh h1
  obtain⟨vd,hvd,ds,hds,hdw⟩:=zSK(by simp;omega)h2
  obtain⟨vc,hvc',cc,hcs,hcw⟩:=zSK(by simp;omega)h3
  obtain⟨vf,hvf,fs,hfs,hfw⟩:=zVS(by simp;omega)h4
  refine⟨⟨n,v,ds,cc,fs⟩,vd,vc,vf,⟨hds,hcs,hfs,⟨hnl,hv,hdw,hcw,hfw⟩⟩,?_⟩
  have e1:cs=(cs.drop 0).take 1++((cs.drop 1).take 4++((cs.drop 5).take 1++((cs.drop 6).take 1++(cs.drop 7).take 1))):=by
    match cs,hl with
    | [a,b,c,d,e,f,g,i],_=>rfl
  rw[e1,hs,hvc,hvd,hvc',hvf,hsn];rfl
theorem tables19{W:World}(h:laidMetH Tryz.prog Rows.planMakesRow.laid W)(ho:W.ShapedOpen Tryz.prog):VerT W.heap∧ShaT W.heap:=by
  refine⟨?_,(tables h ho).1⟩
  have h:laidMet Tryz.prog Rows.planMakesRow.laid W:=h
  obtain⟨ps,hv,_⟩:=h
  obtain⟨t,ms,h1,h2,hu⟩:=t_err
  refine⟨⟨?_,?_⟩,⟨?_,szNG ho⟩,?_⟩
  · obtain⟨cs,T,f,fuel,p,hb,hd⟩:=zO9(dd:=Rows.laid_strconv_ErrSyntax)zSi h1 hv(by repeat(first | exact List.Mem.head _ | refine List.Mem.tail _ ?_))
    obtain⟨T',x,hcs⟩:=zRo hu hd
    exact⟨T',x,T,f,by rw[hb];congr 2;apply Array.ext';rw[hcs]⟩
  · obtain⟨cs,T,f,fuel,p,hb,hd⟩:=zO9(dd:=Rows.laid_strconv_ErrRange)zTr h2 hv(by repeat(first | exact List.Mem.head _ | refine List.Mem.tail _ ?_))
    obtain⟨T',x,hcs⟩:=zRo hu hd
    exact⟨T',x,T,f,by rw[hb];congr 2;apply Array.ext';rw[hcs]⟩
  · exact zNi(t:=zNf)(e:=zQW)(n:=20)zSH(by kernel_rfl)(by kernel_rfl)(by kernel_rfl)(by kernel_rfl)(by kernel_rfl)hv(by repeat(first | exact List.Mem.head _ | refine List.Mem.tail _ ?_))
  · obtain⟨t,ht,hu,hc⟩:=t_ops
    obtain⟨cs,T,f,fuel,p,hb,hd⟩:=zO9(dd:=tabS opsP)g_ops ht hv(by repeat(first | exact List.Mem.head _ | refine List.Mem.tail _ ?_))
    have:=zQC hu zJo zH4 hc hd
    exact⟨T,f,by rw[hb];congr 2;apply Array.ext';rw[this]⟩
def laidHeap19(h:Array Obj):Array Obj:=lay(lay(laidHeap18 h)zHi(flat Rows.laid_syngraph_sha_begin))zEF(flat Rows.laid_syngraph_sha_table)
noncomputable def laidWorld19(os:Os):World :=
  { World.holding Tryz.prog os⟨#[],#[],[]⟩with heap:=laidHeap19(World.holding Tryz.prog os⟨#[],#[],[]⟩).heap }
end Go.Proofs.YticdfkoncnnmmaaGreatDoor.Came
