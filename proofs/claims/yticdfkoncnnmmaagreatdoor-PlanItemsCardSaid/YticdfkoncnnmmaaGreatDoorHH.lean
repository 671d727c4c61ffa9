import Derived.Test.YticdfkoncnnmmaaGreatDoorHG
import Derived.Test.YticdfkoncnnmmaaGreatDoorHB
import Derived.Test.YticdfkoncnnmmaaGreatDoorHA
set_option linter.unusedSimpArgs false
set_option linter.unusedVariables false
set_option maxRecDepth 100000
namespace Go.Proofs.YticdfkoncnnmmaaGreatDoor
open Go.X Go.X.Diff
def zTe (m:Man):Item:=⟨m.name,m.ver,zXL (0 :: zVA m)⟩
theorem zWQ {m:Man}(w:m.wf):(zTe m).wf:=⟨w.ver,zFQ,w.name⟩
theorem zAai {n s:List UInt8}{x:Ver}(hx:x.wf)(hs:s.length=32):zA4 prg zA2 [(0,str n),(1,.agg (zCt x).toArray),(2,bv s)]=some (.agg (zFS ⟨n,x,s⟩).toArray):=by
 have k:zJT prg zA2=some ([(0,1),(1,4),(5,32)],(zFS ⟨[],zB2,List.replicate 32 0⟩).toArray):=by kernel_rfl
 obtain⟨a,b,c,e⟩:=Ver.cases3 hx
 obtain⟨p,pre⟩:=x
 simp only at e
 subst e
 have hz:(zFS ⟨[],zB2,List.replicate 32 0⟩).toArray.size=37:=by simp[zFS,zCt,zB2]
 have c1:(str n).cells.size=1:=rfl
 have c2:(Value.agg (zCt ⟨[a,b,c],pre⟩).toArray).cells.size=4:=rfl
 have c3:(bv s).cells.size=32:=by show(zAy s).toArray.size=32;simp[hs]
 have t1:(spl (zFS ⟨[],zB2,List.replicate 32 0⟩).toArray 0 (str n).cells).size=37:=by rw[zIA (by omega),hz]
 have t2:(spl (spl (zFS ⟨[],zB2,List.replicate 32 0⟩).toArray 0 (str n).cells) 1 (Value.agg (zCt ⟨[a,b,c],pre⟩).toArray).cells).size=37:=by rw[zIA (by omega),t1]
 rw[zGf k,zGU (off:=0) (n:=1) rfl rfl (by omega),zGU (off:=1) (n:=4) rfl rfl (by omega),zGU (off:=5) (n:=32) rfl c3 (by omega),zQC]
 have hl:(spl (spl (spl (zFS ⟨[],zB2,List.replicate 32 0⟩).toArray 0 (str n).cells) 1 (Value.agg (zCt ⟨[a,b,c],pre⟩).toArray).cells) 5 (bv s).cells)=(zFS ⟨n,⟨[a,b,c],pre⟩,s⟩).toArray:=by
  apply Array.ext'
  show _=str n :: ([Value.int .i64 a,.int .i64 b,.int .i64 c,str pre]++zAy s)
  have e3:(bv s).cells=(zAy s).toArray:=rfl
  have e1:(spl (spl (zFS ⟨[],zB2,List.replicate 32 0⟩).toArray 0 (str n).cells) 1 (Value.agg (zCt ⟨[a,b,c],pre⟩).toArray).cells).toList=[str n,.int .i64 a,.int .i64 b,.int .i64 c,str pre]++zAy (List.replicate 32 0):=rfl
  unfold spl at e1 ⊢
  rw[e3]
  simp only[List.size_toArray]at e1 ⊢
  rw[e1]
  simp[hs]
 rw[hl];rfl
theorem zAaj {x:Item}(h:x.wf):zFt prg zA2 1 [(0,.agg (zFS x).toArray)]=some (zFS x).toArray:=by
 obtain⟨z,hz,hzl⟩:=zAft
 exact zSH (by kernel_rfl:prg.cellsOf zA2=37) (by omega) (by omega) hz (by simpa using hzl) (by simp[zQR h])
theorem zAeO {P:Nat->Prop}{H:zAd}{v:Value}{mv:List MV}(hp:zNs P H v mv)(hP:∀ b,P b->b<H.size)(hl:mv.length<=1000)(hO:zNR H)(hT:zTW H)(hS:zTg H) :
  zAg prg zME [v] H fun u H'=>BufE 37 (fun b=>H.size<=b/\b<H'.size) H' u ((mv.map fun x=>zTe x.1).map zFS)/\Keep (fun _=>False) H H':=by
 apply zN3
 unfold zOB
 let I:Nat->Value->zAd->Prop:=fun i w h=>BufE 37 (fun b=>H.size<=b/\b<h.size) h w (((mv.take i).map fun x=>zTe x.1).map zFS)/\Keep (fun _=>False) H h
 refine zLf (fun w _ h=>I mv.length w h) (fun k1 hk1=>?_) ?_
 rotate_left
 ·rintro w _ h ⟨b,k⟩
  rw[List.take_of_length_le (Nat.le_refl _)]at b
  exact⟨b,k⟩
 rw[hp.len,zAa]
 refine zTf (fun w z h=>∃ i:Nat,i<=mv.length/\z = .int .i64 (i:Nat)/\I i w h) (fun _ z _=>match z with | .int _ t=>mv.length - t.toNat | _=>0) ⟨0,Nat.zero_le _,rfl,BufE.nil,Keep.refl⟩ ?_
 rintro t5 _ h4 ⟨i,hi,rfl,b4,k4⟩ k3 hk3
 have g4:=k4.1
 rw[zMs,zAa,zAc]
 by_cases hlt:i<mv.length
 rotate_left
 ·rw[if_neg (by simpa using hlt)]
  obtain rfl:i=mv.length:=by omega
  exact hk1 _ _ _ ⟨b4,k4⟩
 rw[if_pos (by simpa using hlt)]
 have hg:mv[i]? = some mv[i]:=List.getElem?_eq_getElem hlt
 have hm:=List.getElem_mem hlt
 generalize mv[i]=x at *
 obtain⟨hmx,b,o,hix,hpt,_⟩:=(hp.keep k4 fun _ _=>id).at hg
 have w:=hmx.wf
 have hsx:=hp.sm x hm
 rw[hix .i64,zAa,zKf hpt w,zAa]
 simp only[zKJ,zAs,zAx,Nat.zero_add,Nat.add_zero,zAa]
 generalize hH7:h4.push (.cells (zEN ⟨[],zB2,[],[],[]⟩ zAY zAY zAY).toArray zAb (0,0))=h7
 have k7:Keep (fun _=>False) h4 h7:=by rw[<- hH7];exact Keep.push
 have a7:At h7 h4.size (zEN ⟨[],zB2,[],[],[]⟩ zAY zAY zAY):=by rw[<- hH7];exact At.push
 obtain⟨h8,st8,a8,k8⟩:=a7.st (n:=8) (ds:=mvC x) (zAH zMt) (zAH w) (zF7 hmx)
 have k48:Keep (fun _=>False) h4 h8:=k7.fresh k8 fun b hb=>by omega
 have k08:=k4.trans k48
 have g08:=k08.1
 rw[st8,zAm,zBE a8,zAa,zFK a8 w,zAa,a8.ldN (zAH w),zAa]
 refine zAk (zUz (hmx.keep k48 fun _ _=>id) (fun b hb=>by have:=hP b hb;omega) (by omega) (by omega) (hO.keep k08 fun _ h=>h.elim) (hT.keep k08 fun _ h=>h.elim)) ?_
 rintro t18 h9 ⟨sl,k9⟩
 have a9:=a8.keep k9 id
 rw[zFK a9 w,zBE a9,zAw,zAw,zAr]
 have hln:=zRm w.files fun h=>zTd w h (by omega) (by omega)
 have k09:=k08.trans k9
 refine zAk (zUy sl (hS.keep k09 fun _ h=>h.elim) (fun b hb=>hb.2) (by omega)) ?_
 rintro _ h10 ⟨rfl,k10⟩
 have a10:=a9.keep k10 id
 have k410:=(k48.trans k9).trans k10
 rw[zFK a10 w,zBE a10,zAw,zAw,zAr,zAai w.ver zFQ,zAa]
 have hw:=zWQ w
 show zC5 h10 zA2 1 (zFt prg zA2 1 [(0,.agg (zFS (zTe x.1)).toArray)]) _
 rw[zAaj hw,zAV]
 have hr:=zK5 (x:=zFS (zTe x.1)) (T:=zA2) (h:=h10) (n:=37) (zQR hw) zYJ
 have kp:Keep (fun _=>False) h10 (h10.push (.cells (zFS (zTe x.1)).toArray zA2 (0,0))):=Keep.push
 have gp:=kp.1
 have k4p:=k410.trans kp
 have g4p:=k4p.1
 refine((b4.keep k4p fun _ _=>id).mono (G:=fun b=>H.size<=b) fun b hb=>hb.1).app hr (by omega) (by rw[List.length_map,List.length_map,List.length_take,List.length_singleton];omega) (by show H.size<=_;omega) fun t h11 b11 k11=>?_
 rw[zAG (by omega),zAa]
 refine hk3 _ _ _ ⟨i+1,by omega,rfl,?_,(k4.trans k4p).fresh k11 fun b hb=>hb⟩ (by show mv.length - (i+1)<mv.length - i;omega)
 rw[show mv.take (i+1)=mv.take i++[x] by rw[List.take_add_one,hg];rfl,List.map_append,List.map_append]
 exact BufE.re b11 fun b hb hF=>⟨hF,hb⟩
structure zP3 (P:Nat->Prop)(H:zAd)(v:Value)(mv:List MV):Prop where
 h:SlE 8 P H v (mv.map mvC)
 m:∀ x ∈ mv,zJJ P H x.1 x.2.1 x.2.2.1 x.2.2.2
 hl:mv.length<=9223372036854775807
theorem zP3.keep {P S:Nat->Prop}{H H':zAd}{v:Value}{mv:List MV}(h:zP3 P H v mv)(k:Keep S H H')(hs:∀ b,P b->¬ S b):zP3 P H' v mv:=⟨h.h.keep k hs,fun x hx=>(h.m x hx).keep k hs,h.hl⟩
def zSg (x:MV):Prop:=x.1.name.length<=50/\x.1.ver.pre.length<=50/\x.1.deps.length<=8/\x.1.conf.length<=8/\x.1.files.length<=8
def zUA (mv:List MV):Prop:=∀ x ∈ mv,zSg x
theorem zP3.to {P:Nat->Prop}{H:zAd}{v:Value}{mv:List MV}(h:zP3 P H v mv)(hs:zUA mv):zNs P H v mv:=⟨h.h,h.m,fun x hx=>by have:=hs x hx;unfold zSg at this;omega⟩
theorem zP3.len {P:Nat->Prop}{H:zAd}{v:Value}{mv:List MV}(h:zP3 P H v mv):zBO v=some (.int .i64 (mv.length:Nat)):=by have:=h.h.len;rwa [List.length_map]at this
theorem zUB {α β:Type}{f:α->β}{l:List α}{i:Nat}{x:α}(h:l[i]? = some x):(l.map f)[i]? = some (f x):=by rw[List.getElem?_map,h];rfl
theorem zAeP {n m:Nat}:zAh .no .gtr (.int .i64 (n:Nat)) (.int .i64 ((m:Nat):Int))=some (.bool (decide (n > m))):=zZc
theorem zAeQ {α:Type}{l:List α}{i:Nat}(h:i<l.length):∃ x,l[i]? = some x/\x ∈ l:=⟨l[i],List.getElem?_eq_getElem h,List.getElem_mem h⟩
theorem zAb2 {α:Type}{l:List α}{p:α->Prop}(h:∀ x ∈ l.take l.length,p x):∀ x ∈ l,p x:=by rwa [List.take_length]at h
theorem zAak {α:Type}{l:List α}{i:Nat}{x:α}{p:α->Prop}(hx:l[i]? = some x)(h:∀ y ∈ l.take i,p y)(hp:p x):∀ y ∈ l.take (i+1),p y:=by
 intro y hy
 rw[List.take_add_one,hx]at hy
 rcases List.mem_append.1 hy with hy | hy
 ·exact h y hy
 ·obtain rfl:y=x:=by simpa using hy
  exact hp
theorem zAal {P:Nat->Prop}{H:zAd}{v:Value}{mv:List MV}{most:Nat}(hp:zP3 P H v mv) :
  zAg prg zFu [v,.int .i64 (most:Nat)] H fun u H'=>(∃ b,u = .bool b/\(b=true->zUA mv/\mv.length<=most))/\Keep No H H':=by
 apply zJB
 unfold zHX
 refine range_i hp.len (fun i h=>(∀ x ∈ mv.take i,zSg x)/\Keep No H h) (fun h=>zUA mv/\Keep No H h) ⟨by simp,Keep.refl⟩ (fun h hI=>⟨zAb2 hI.1,hI.2⟩) ?_ ?_
 rotate_left
 ·rintro _ h ⟨hs,k⟩
  rw[hp.len,zAa,zVp,zAa]
  exact⟨⟨_,rfl,fun e=>⟨hs,of_decide_eq_true e⟩⟩,k⟩
 rintro i h hlt ⟨hall,kh⟩ k1 k3 _ hk3
 obtain⟨x,hx,hm⟩:=zAeQ hlt
 have hmx:=hp.m x hm
 have w:=hmx.wf
 refine zAiI (fun h'=>zSg x/\Keep No h h') (fun k5 hk5=>?_) ?_
 rotate_left
 ·rintro _ _ _ _ _ h' ⟨hs,k'⟩
  exact zZY hlt hp.hl (hk3 _ ⟨zAak hx hall hs,kh.trans k'⟩)
 refine zAhD (hp.keep kh fun _ _=>id).h (zUB hx) zKJ (zAH zMt) fun h8 a8 k8=>?_
 have bad:(∃ b,Value.bool false = .bool b/\(b=true->zUA mv/\mv.length<=most))/\Keep No H h8:=⟨⟨_,rfl,fun e=>by cases e⟩,kh.trans k8⟩
 have a8':At h8 h.size (zEN x.1 x.2.1 x.2.2.1 x.2.2.2):=a8
 obtain⟨g5,g6,g7⟩:=zE9 a8' w
 have l1:=(hmx.d.keep (kh.trans k8) fun _ _=>id).len
 have l2:=(hmx.c.keep (kh.trans k8) fun _ _=>id).len
 have hf:=(hmx.keep (kh.trans k8) fun _ _=>id).f
 have l3:=hf.len
 rw[List.length_map]at l1 l2 l3
 have b8:∀ n:Nat,zAh .no .gtr (.int .i64 (n:Nat)) (.int .i64 8)=some (.bool (decide (n > 8))):=fun n=>zAeP (m:=8)
 have b50:∀ n:Nat,zAh .no .gtr (.int .i64 (n:Nat)) (.int .i64 50)=some (.bool (decide (n > 50))):=fun n=>zAeP (m:=50)
 simp only[zAx,Nat.zero_add,Nat.add_zero,zAa,zBE a8',zAd7 a8' w,g5,g6,g7,l1,l2,l3,zDU,b8,b50]
 refine zXT (fun q=>zXT (fun _=>zXT (fun _=>zXT (fun _=>zOX rfl bad) nofun) nofun) nofun) fun q1=>?_
 refine zXT (fun q=>zXT (fun _=>zXT (fun _=>zOX rfl bad) nofun) nofun) fun q2=>?_
 refine zCO g5 (zCO l1 (zCO (b8 _) ?_))
 refine zXT (fun q=>zXT (fun _=>zOX rfl bad) nofun) fun q3=>?_
 refine zCO g6 (zCO l2 (zCO (b8 _) ?_))
 refine zXT (fun q=>zOX rfl bad) fun q4=>?_
 refine zCO g7 (zCO l3 (zCO (b8 _) (zZX (fun _=>bad) fun q5=>?_)))
 have hs1:zSg x:=by
  rw[decide_eq_false_iff_not]at q1 q2 q3 q4 q5
  unfold zSg;omega
 refine zCO g7 (zCO l3 (zAgh (fun _ h'=>Keep No h8 h') Keep.refl (fun h' k'=>hk5 _ _ _ _ _ _ ⟨hs1,k8.trans k'⟩) ?_))
 intro j h' hj k' k17 hk17
 obtain⟨f,hfx,hfm⟩:=zAeQ hj
 have wf:=w.files f hfm
 refine zAhD (hf.keep k' fun _ _=>id) (zUB hfx) zY1 (zBG zSV) fun h9 a9 k9=>?_
 have k09:=(kh.trans k8).trans (k'.trans k9)
 have bad:(∃ b,Value.bool false = .bool b/\(b=true->zUA mv/\mv.length<=most))/\Keep No H h9:=⟨⟨_,rfl,fun e=>by cases e⟩,k09⟩
 have f1:ld1 h9 (Ptr h'.size 0)=some (str f.name):=zAd5 a9.pt
 have f2:ld1 h9 (Ptr h'.size 33)=some (.int .i64 f.size):=by have:=zVg a9.pt wf;rwa [Nat.zero_add]at this
 have e80:zAh .no .gtr (.int .i64 (f.name.length:Nat)) (.int .i64 80)=some (.bool (decide (f.name.length > 80))):=zAeP (m:=80)
 have e3:zAh .no .gtr (.int .i64 f.size) (.int .i64 300)=some (.bool (decide (f.size > 300))):=by rw[zAi];rfl
 simp only[zAx,Nat.zero_add,Nat.add_zero,zAa,f1,zDU,e80]
 refine zXT (fun q=>zOX rfl bad) fun q1=>zCO f2 (zCO e3 (zZX (fun _=>bad) fun q2=>?_))
 exact zZY hj (by have:=hs1.2.2.2.2;omega) (hk17 _ (k'.trans k9))
end Go.Proofs.YticdfkoncnnmmaaGreatDoor
