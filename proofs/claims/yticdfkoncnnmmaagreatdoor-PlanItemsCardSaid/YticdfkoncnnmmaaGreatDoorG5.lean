import Derived.Test.YticdfkoncnnmmaaGreatDoorG4
import Derived.Test.YticdfkoncnnmmaaGreatDoorGM
set_option linter.unusedSimpArgs false
set_option linter.unusedVariables false
set_option maxRecDepth 100000
namespace Go.Proofs.YticdfkoncnnmmaaGreatDoor.Came
open Go.X
theorem zAbu {q:List (List Value)}(h:∀ x ∈ q,∃ y:Dep,y.wf/\x=zDa y):∃ ys:List Dep,q=ys.map zDa/\∀ y ∈ ys,y.wf:=by
 induction q with
 | nil=>exact⟨[],rfl,fun y h=>by cases h⟩
 | cons x q ih =>
  obtain⟨ys,hy,hw⟩:=ih fun x hx=>h x (by simp[hx])
  obtain⟨y,yw,rfl⟩:=h x (by simp)
  exact⟨y :: ys,by rw[hy];rfl,fun z hz=>by
   rcases List.mem_cons.1 hz with rfl | hz
   ·exact yw
   ·exact hw z hz⟩
theorem zY3 {q:List (List Value)}(h:∀ x ∈ q,∃ y:zE8,y.wf/\x=zB9 y):∃ ys:List zE8,q=ys.map zB9/\∀ y ∈ ys,y.wf:=by
 induction q with
 | nil=>exact⟨[],rfl,fun y h=>by cases h⟩
 | cons x q ih =>
  obtain⟨ys,hy,hw⟩:=ih fun x hx=>h x (by simp[hx])
  obtain⟨y,yw,rfl⟩:=h x (by simp)
  exact⟨y :: ys,by rw[hy];rfl,fun z hz=>by
   rcases List.mem_cons.1 hz with rfl | hz
   ·exact yw
   ·exact hw z hz⟩
theorem zAhn:zAdY zAj [(0,zAz),(1,zAJ)]=true:=by kernel_rfl
theorem zAcC:prg.cellsOf zAj=6:=by kernel_rfl
theorem zAfR {w:World}{d:Nat}{cs:List Value}(h:Shp prg w d zAj cs):∃ x:Dep,x.wf/\cs=zDa x:=by
 obtain⟨d',hl,hfl⟩:=zOO zAhn h
 rw[zAcC]at hl
 have h0:=hfl 0 0 zAz rfl
 have h1:=hfl 1 1 zAJ rfl
 rw[zLv]at h0;rw[zYW]at h1
 obtain⟨s,hs,hsl⟩:=zQI zNl h0
 obtain⟨n,hsn,hnl⟩:=str_of hsl
 obtain⟨v,hv,hvc⟩:=zAd2 h1
 refine⟨⟨n,v⟩,⟨hv,hnl⟩,?_⟩
 have e1:cs=(cs.drop 0).take 1++(cs.drop 1).take 5:=by
  rw[List.take_of_length_le (l:=cs.drop 1) (by simp;omega),List.drop_zero]
  exact(List.take_append_drop 1 cs).symm
 rw[e1,hs,hvc,hsn];rfl
theorem zAfS:zAdY zAu [(0,zAz),(1,zAO),(33,zGd)]=true:=by kernel_rfl
theorem zY4:prg.cellsOf zAu=34:=by kernel_rfl
theorem zAfT:prg.cellsOf zGd=1:=by kernel_rfl
theorem zAd8 {w:World}{d:Nat}{cs:List Value}(h:Shp prg w d zAu cs):∃ x:zE8,x.wf/\cs=zB9 x:=by
 obtain⟨d',hl,hfl⟩:=zOO zAfS h
 rw[zY4]at hl
 have h0:=hfl 0 0 zAz rfl
 have h1:=hfl 1 1 zAO rfl
 have h2:=hfl 2 33 zGd rfl
 rw[zLv]at h0;rw[zYU]at h1;rw[zAfT]at h2
 obtain⟨s,hs,hsl⟩:=zQI zNl h0
 obtain⟨n,hsn,hnl⟩:=str_of hsl
 obtain⟨e,he,hu,hc⟩:=zAfL
 obtain⟨l,hll,hlc,hlw⟩:=zVY he hu hc zYU h1
 obtain⟨r,hr,hrc⟩:=zW7 hlw
 obtain⟨k,hk,hkw⟩:=zYz zAhc h2
 refine⟨⟨n,r,k⟩,⟨hnl,by show r.length=32;omega,zAd1 hkw⟩,?_⟩
 have e1:cs=(cs.drop 0).take 1++((cs.drop 1).take 32++(cs.drop 33).take 1):=by
  rw[List.take_of_length_le (l:=cs.drop 33) (by simp;omega),List.drop_zero]
  have h33:cs.drop 33=(cs.drop 1).drop 32:=by rw[List.drop_drop]
  rw[h33,List.take_append_drop]
  exact(List.take_append_drop 1 cs).symm
 rw[e1,hs,hlc,hrc,hk,hsn];rfl
theorem zAfU:prg.underlying zBh=some (.slice zAj):=by kernel_rfl
theorem zAd9:prg.underlying zEn=some (.slice zAu):=by kernel_rfl
theorem zY5 {w:World}{d:Nat}{cs:List Value}(hl:cs.length=1)(h:Shp prg w d zBh cs):∃ v,cs=[v]/\∃ xs:List Dep,SlE 6 (· < w.heap.size) w.heap v (xs.map zDa)/\∀ x ∈ xs,x.wf:=by
 match cs,hl with
 | [v],_ =>
  refine⟨v,rfl,?_⟩
  cases d with
  | zero=>exact h.elim
  | succ d =>
   simp only[Shp,zAfU]at h
   rcases h with h | ⟨a,len,cap,hv,hle,hcap,hel⟩
   ·obtain rfl:v = .slice none 0 0:=by simpa using h
    exact⟨[],SlE.nil,fun x h=>by cases h⟩
   ·obtain rfl:v = .slice (some a) len cap:=by simpa using hv
    rw[zAcC]at hel
    obtain⟨q,hq,hs,hqi⟩:=zMK (n:=6) (q:=fun cs=>∃ y:Dep,y.wf/\cs=zDa y) (by omega) hle (fun cs ⟨y,_,e⟩ c hc=>by subst e;exact zID c hc) fun i hi=>by
     obtain⟨cs',h1,h2⟩:=hel i hi
     exact⟨cs',h1,zAfR h2⟩
    obtain⟨ys,rfl,hw⟩:=zAbu hqi
    exact⟨ys,hs,hw⟩
theorem zAbv {w:World}{d:Nat}{cs:List Value}(hl:cs.length=1)(h:Shp prg w d zEn cs):∃ v,cs=[v]/\∃ xs:List zE8,SlE 34 (· < w.heap.size) w.heap v (xs.map zB9)/\∀ x ∈ xs,x.wf:=by
 match cs,hl with
 | [v],_ =>
  refine⟨v,rfl,?_⟩
  cases d with
  | zero=>exact h.elim
  | succ d =>
   simp only[Shp,zAd9]at h
   rcases h with h | ⟨a,len,cap,hv,hle,hcap,hel⟩
   ·obtain rfl:v = .slice none 0 0:=by simpa using h
    exact⟨[],SlE.nil,fun x h=>by cases h⟩
   ·obtain rfl:v = .slice (some a) len cap:=by simpa using hv
    rw[zY4]at hel
    obtain⟨q,hq,hs,hqi⟩:=zMK (n:=34) (q:=fun cs=>∃ y:zE8,y.wf/\cs=zB9 y) (by omega) hle (fun cs ⟨y,_,e⟩ c hc=>by subst e;exact zKd c hc) fun i hi=>by
     obtain⟨cs',h1,h2⟩:=hel i hi
     exact⟨cs',h1,zAd8 h2⟩
    obtain⟨ys,rfl,hw⟩:=zY3 hqi
    exact⟨ys,hs,hw⟩
theorem zAho:zAdY zAb [(0,zAz),(1,zAn),(5,zBh),(6,zBh),(7,zEn)]=true:=by kernel_rfl
theorem zAcD:prg.cellsOf zAb=8:=by kernel_rfl
theorem zAea:prg.cellsOf zBh=1:=by kernel_rfl
theorem zAbw:prg.cellsOf zEn=1:=by kernel_rfl
theorem zAfV {w:World}{d:Nat}{cs:List Value}(h:Shp prg w d zAb cs):∃ (m:Man) (vd vc vf:Value),zJJ (· < w.heap.size) w.heap m vd vc vf/\cs=zEN m vd vc vf:=by
 obtain⟨d',hl,hfl⟩:=zOO zAho h
 rw[zAcD]at hl
 have h0:=hfl 0 0 zAz rfl
 have h1:=hfl 1 1 zAn rfl
 have h2:=hfl 2 5 zBh rfl
 have h3:=hfl 3 6 zBh rfl
 have h4:=hfl 4 7 zEn rfl
 rw[zLv]at h0;rw[zYT]at h1;rw[zAea]at h2 h3;rw[zAbw]at h4
 obtain⟨s,hs,hsl⟩:=zQI zNl h0
 obtain⟨n,hsn,hnl⟩:=str_of hsl
 obtain⟨v,hv,hvc⟩:=zAcy h1
 obtain⟨vd,hvd,ds,hds,hdw⟩:=zY5 (by simp;omega) h2
 obtain⟨vc,hvc',cc,hcs,hcw⟩:=zY5 (by simp;omega) h3
 obtain⟨vf,hvf,fs,hfs,hfw⟩:=zAbv (by simp;omega) h4
 refine⟨⟨n,v,ds,cc,fs⟩,vd,vc,vf,⟨hds,hcs,hfs,⟨hnl,hv,hdw,hcw,hfw⟩⟩,?_⟩
 have e1:cs=(cs.drop 0).take 1++((cs.drop 1).take 4++((cs.drop 5).take 1++((cs.drop 6).take 1++(cs.drop 7).take 1))):=by
  match cs,hl with
  | [a,b,c,d,e,f,g,i],_=>rfl
 rw[e1,hs,hvc,hvd,hvc',hvf,hsn];rfl
theorem zAbx {W:World}(h:laidMetH Tryz.prog Rows.planMakesRow.laid W)(ho:W.ShapedOpen Tryz.prog):zAdV W.heap/\zTg W.heap:=by
 refine⟨?_,(tables h ho).1⟩
 have h:laidMet Tryz.prog Rows.planMakesRow.laid W:=h
 obtain⟨ps,hv,_⟩:=h
 obtain⟨t,ms,h1,h2,hu⟩:=zAhh
 refine⟨⟨?_,?_⟩,⟨?_,zAhe ho⟩,?_⟩
 ·obtain⟨cs,T,f,fuel,p,hb,hd⟩:=zWl (dd:=Rows.laid_strconv_ErrSyntax) zVe h1 hv (by repeat (first | exact List.Mem.head _ | refine List.Mem.tail _ ?_))
  obtain⟨T',x,hcs⟩:=zWm hu hd
  exact⟨T',x,T,f,by rw[hb];congr 2;apply Array.ext';rw[hcs]⟩
 ·obtain⟨cs,T,f,fuel,p,hb,hd⟩:=zWl (dd:=Rows.laid_strconv_ErrRange) zXi h2 hv (by repeat (first | exact List.Mem.head _ | refine List.Mem.tail _ ?_))
  obtain⟨T',x,hcs⟩:=zWm hu hd
  exact⟨T',x,T,f,by rw[hb];congr 2;apply Array.ext';rw[hcs]⟩
 ·exact zTO (t:=zPL) (e:=zVU) (n:=20) zYV (by kernel_rfl) (by kernel_rfl) (by kernel_rfl) (by kernel_rfl) (by kernel_rfl) hv (by repeat (first | exact List.Mem.head _ | refine List.Mem.tail _ ?_))
 ·obtain⟨t,ht,hu,hc⟩:=zAhj
  obtain⟨cs,T,f,fuel,p,hb,hd⟩:=zWl (dd:=zAhg zWj) zAhi ht hv (by repeat (first | exact List.Mem.head _ | refine List.Mem.tail _ ?_))
  have:=zST hu zNl zLv hc hd
  exact⟨T,f,by rw[hb];congr 2;apply Array.ext';rw[this]⟩
def zXm (h:Array Obj):Array Obj:=lay (lay (zXj h) zJR (flat Rows.laid_syngraph_sha_begin)) zGH (flat Rows.laid_syngraph_sha_table)
noncomputable def zOc (os:Os):World :=
 { World.holding Tryz.prog os ⟨#[],#[],[]⟩ with heap:=zXm (World.holding Tryz.prog os ⟨#[],#[],[]⟩).heap }
end Go.Proofs.YticdfkoncnnmmaaGreatDoor.Came
