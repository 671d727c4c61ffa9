import Derived.Test.YticdfkoncnnmmaaGreatDoorHU
import Derived.Test.YticdfkoncnnmmaaGreatDoorHP
set_option linter.unusedSimpArgs false
set_option linter.unusedVariables false
set_option maxRecDepth 100000
namespace Go.Proofs.YticdfkoncnnmmaaGreatDoor.planBacks
open Go.ChangeShapes Go.WideShapes Go.ChangeAt Go.RowKit Came
theorem zAng:Tryz.f8.params=#[zDu,zF3,zF4]:=by kernel_rfl
theorem zAgq (H:Type)(enc:TypeId×Value->H)(W:World)(base:Nat)(args:Array Value)(ds gs:List (DataW H))(before:List MemPlace)
  (hval:∀ (j:Nat) t v,Tryz.f8.params[j]? = some t->args[j]? = some v->Value.okWide Tryz.prog W .any base t v)
  (hW:DataW.Whole enc Tryz.prog Tryz.f8.params.toList Rows.planBacksSpec.vars false W args.toList ds gs before) (hbk:Rows.uptoSmall H (ds++gs)=true) (hL:laidMetH Tryz.prog Rows.planBacksUptoRow.laid W) (ho:W.ShapedOpen Tryz.prog) :
  Calls Tryz.prog 8 args W λe W'=>∃ v,e = .returned v/\Rows.planBacksSpec.post enc Tryz.prog Tryz.f8 false true false false W args v W':=by
 have hW':=hW
 obtain⟨p,q,hA0,hV,rfl,hfz,hnd⟩:=hW
 have hA:DataW.TrodAll enc Tryz.prog W 0 (λ_=>true) true Tryz.f8.params.toList args.toList ds p:=hA0
 rw[zAng]at hA hval
 obtain⟨v0,vs0,d0,ds0,p0,q0,hargs,rfl,rfl,h0,r0⟩:=trodAll_cons hA
 obtain⟨v1,vs1,d1,ds1,p1,q1,rfl,rfl,rfl,h1,r1⟩:=trodAll_cons r0
 obtain⟨v2,vs2,d2,ds2,p2,q2,rfl,rfl,rfl,h2,r2⟩:=trodAll_cons r1
 obtain⟨rfl,rfl,rfl⟩:=trodAll_nil r2
 obtain rfl:args=#[v0,v1,v2]:=by cases args;simp_all
 obtain⟨rfl,rfl⟩:=trodVars_none hV
 have k0:=h0
 have lt0:∀ x∈p0,x.block<W.heap.size:=by obtain⟨m,hm⟩:=k0;exact DataW.trod_lt m _ _ _ hm
 have k1:=h1
 have lt1:∀ x∈p1,x.block<W.heap.size:=by obtain⟨m,hm⟩:=k1;exact DataW.trod_lt m _ _ _ hm
 have k2:=h2
 have lt2:∀ x∈p2,x.block<W.heap.size:=by obtain⟨m,hm⟩:=k2;exact DataW.trod_lt m _ _ _ hm
 clear hA0
 obtain⟨a0,l0,c0,rfl⟩:=okWide_slice zAej (hval 0 zDu v0 rfl rfl)
 obtain⟨x0,hl0,hx0⟩:∃ xs:List MV,xs.length<=9223372036854775807/\zS5 (· < W.heap.size) W.heap (.slice a0 l0 c0) xs:=by
  obtain⟨m,hm⟩:=h0
  exact zAk5 (Go.X.shp_of_trod hm)
 obtain⟨a1,l1,c1,rfl⟩:=okWide_slice zAek (hval 1 zF3 v1 rfl rfl)
 obtain⟨x1,hl1,hx1⟩:∃ xs:List PW,xs.length<=9223372036854775807/\zRp (· < W.heap.size) W.heap (.slice a1 l1 c1) xs:=by
  obtain⟨m,hm⟩:=h1
  exact zAk7 (Go.X.shp_of_trod hm)
 obtain⟨a2,l2,c2,rfl⟩:=okWide_slice zY3 (hval 2 zF4 v2 rfl rfl)
 obtain⟨x2,hl2,hx2⟩:∃ xs:List Item,xs.length<=9223372036854775807/\Items (· < W.heap.size) W.heap (.slice a2 l2 c2) xs:=by
  obtain⟨m,hm⟩:=h2
  exact zAfv (Go.X.shp_of_trod hm)
 have hbb:=zAbM hbk
 have hb0:Rows.uptoBulk d0<=1048576:=Nat.le_trans (zWY (by simp)) hbb
 have hn0:x0.length<=1048576:=by
  obtain⟨m,hm⟩:=k0
  have h1:=zS6 zAej hm
  have h2:=hx0.len
  have h3:(l0:Int)=(x0.length:Int):=by
   have:Go.X.lenV (.slice a0 l0 c0)=some (Value.int .i64 l0):=rfl
   rw[this]at h2
   simpa using h2
  omega
 have hb1:Rows.uptoBulk d1<=1048576:=Nat.le_trans (zWY (by simp)) hbb
 have hn1:x1.length<=1048576:=by
  obtain⟨m,hm⟩:=k1
  have h1:=zS6 zAek hm
  have h2:=hx1.len
  have h3:(l1:Int)=(x1.length:Int):=by
   have:Go.X.lenV (.slice a1 l1 c1)=some (Value.int .i64 l1):=rfl
   rw[this]at h2
   simpa using h2
  omega
 have hb2:Rows.uptoBulk d2<=1048576:=Nat.le_trans (zWY (by simp)) hbb
 have hn2:x2.length<=1048576:=by
  obtain⟨m,hm⟩:=k2
  have h1:=zS6 zY3 hm
  have h2:=hx2.len
  have h3:(l2:Int)=(x2.length:Int):=by
   have:Go.X.lenV (.slice a2 l2 c2)=some (Value.int .i64 l2):=rfl
   rw[this]at h2
   simpa using h2
  omega
 obtain⟨hT,hS⟩:=zAfC hL ho
 have hNG:=zAlu ho
 refine(zZB hx0 hx1 hx2.1 hx2.2 (λb hb=>by rcases hb with hb|hb|hb<;>exact hb) hn1 hT hS hNG W rfl).mono λe W'=>?_
 rintro⟨v,rfl,hs,rfl,hk⟩
 have bel:Below W.heap.size W W':=⟨hs.os,hs.tape,hs.output,hk.1,λk hk'=>hk.2 k hk' id⟩
 exact⟨_,rfl,_,_,_,[],_,[],hW',trodAll_mk1 (shut_bool zAkh _),(trodAll_cons_mk (Below.trod zY2 (by kernel_rfl) (of_decide_eq_true (by kernel_rfl)) k0 bel lt0) (trodAll_cons_mk (Below.trod zY2 (by kernel_rfl) (of_decide_eq_true (by kernel_rfl)) k1 bel lt1) (trodAll_cons_mk (Below.trod zY2 (by kernel_rfl) (of_decide_eq_true (by kernel_rfl)) k2 bel lt2) trodAll_mk0))),rfl,bel.frame _,λh=>by cases h⟩
def zAlB:Value := .slice none 0 0
def zAlC:Value := .slice none 0 0
def zAlD:Value := .slice none 0 0
theorem zAgr (os:Os):laidMet Tryz.prog Rows.planBacksUptoRow.laid ((zRi os).forCall (λ_ _=>0) ⟨#[],#[zAlB,zAlC,zAlD],[]⟩).memory :=
 laidMet_of_run' 8 (by kernel_rfl) (by kernel_rfl)
theorem reads (os:Os){H:Type}(enc:TypeId×Value->H):∃ places,DataW.whole enc Tryz.prog ((zRi os).forCall (λ_ _=>0) ⟨#[],#[zAlB,zAlC,zAlD],[]⟩).memory Tryz.f8.params.toList Rows.planBacksSpec.vars false #[zAlB,zAlC,zAlD].toList 8=some ([.nil,.nil,.nil],[],places) :=
 ⟨[],by kernel_rfl⟩
end Go.Proofs.YticdfkoncnnmmaaGreatDoor.planBacks
