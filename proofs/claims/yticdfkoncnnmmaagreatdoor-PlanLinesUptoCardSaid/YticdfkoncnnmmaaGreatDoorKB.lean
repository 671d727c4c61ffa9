import Derived.Test.YticdfkoncnnmmaaGreatDoorHT
import Derived.Test.YticdfkoncnnmmaaGreatDoorHP
set_option linter.unusedSimpArgs false
set_option linter.unusedVariables false
set_option maxRecDepth 100000
namespace Go.Proofs.YticdfkoncnnmmaaGreatDoor.planLines
open Go.ChangeShapes Go.WideShapes Go.ChangeAt Go.RowKit Came
theorem zAmG:Tryz.f7.params=#[zCu]:=by kernel_rfl
theorem zAfX (H:Type)(enc:TypeId×Value->H)(W:World)(base:Nat)(args:Array Value)(ds gs:List (DataW H))(before:List MemPlace)
  (hval:∀ (j:Nat) t v,Tryz.f7.params[j]? = some t->args[j]? = some v->Value.okWide Tryz.prog W .any base t v)
  (hW:DataW.Whole enc Tryz.prog Tryz.f7.params.toList Rows.planLinesSpec.vars false W args.toList ds gs before) (hbk:Rows.uptoSmall H (ds++gs)=true) (hL:laidMetH Tryz.prog Rows.planLinesUptoRow.laid W) (ho:W.ShapedOpen Tryz.prog) :
  Calls Tryz.prog 7 args W λe W'=>∃ v,e = .returned v/\Rows.planLinesSpec.post enc Tryz.prog Tryz.f7 false true false false W args v W':=by
 have hW':=hW
 obtain⟨p,q,hA0,hV,rfl,hfz,hnd⟩:=hW
 have hA:DataW.TrodAll enc Tryz.prog W 0 (λ_=>true) true Tryz.f7.params.toList args.toList ds p:=hA0
 rw[zAmG]at hA hval
 obtain⟨v0,vs0,d0,ds0,p0,q0,hargs,rfl,rfl,h0,r0⟩:=trodAll_cons hA
 obtain⟨rfl,rfl,rfl⟩:=trodAll_nil r0
 obtain rfl:args=#[v0]:=by cases args;simp_all
 obtain⟨rfl,rfl⟩:=trodVars_none hV
 have k0:=h0
 have lt0:∀ x∈p0,x.block<W.heap.size:=by obtain⟨m,hm⟩:=k0;exact DataW.trod_lt m _ _ _ hm
 clear hA0
 obtain⟨fs0,hu0⟩:=zAkJ
 obtain⟨cs0,rfl,hcs0⟩:=okWide_struct hu0 (hval 0 zCu v0 rfl rfl)
 obtain⟨x0,vi0,vp0,hx0,hc0⟩:∃ (z:zSu) (vi vp:Value),zAa6 (· < W.heap.size) W.heap vi vp z/\cs0.toList=zMU vi vp z.ask:=by
  obtain⟨m,hm⟩:=h0
  exact zAiS (Go.X.shp_of_trod hm)
 obtain rfl:cs0=(zMU vi0 vp0 x0.ask).toArray:=by rw[<- hc0]
 have hbb:=zAbd hbk
 have hb0:Rows.uptoBulk d0<=1048576:=Nat.le_trans (zYT (by simp)) hbb
 have hn0:x0.pv.length<=1048576:=by
  obtain⟨m,hm⟩:=k0
  exact Nat.le_trans (zAd1 hx0 hm) hb0
 obtain⟨hT,hS⟩:=zAfd hL ho
 have hNG:=zAkY ho
 refine(zYU hx0 (λb hb=>hb) hn0 hT hS hNG W rfl).mono λe W'=>?_
 rintro⟨v,rfl,hs,rfl,hk⟩
 have bel:Below W.heap.size W W':=⟨hs.os,hs.tape,hs.output,hk.1,λk hk'=>hk.2 k hk' id⟩
 exact⟨_,rfl,_,_,_,[],_,[],hW',trodAll_mk1 (shut_bool zAjM _),(trodAll_cons_mk (Below.trod zAhT (by kernel_rfl) (of_decide_eq_true (by kernel_rfl)) k0 bel lt0) trodAll_mk0),rfl,bel.frame _,λh=>by cases h⟩
def zAk4:Value := .agg #[.slice none 0 0,.slice none 0 0,.int .i64 0,.string ⟨#[]⟩,.string ⟨#[]⟩,.int .i64 0,.int .i64 0,.int .i64 0,.string ⟨#[]⟩,.int .i64 0]
theorem zAfY (os:Os):laidMet Tryz.prog Rows.planLinesUptoRow.laid ((zQS os).forCall (λ_ _=>0) ⟨#[],#[zAk4],[]⟩).memory :=
 laidMet_of_run' 8 (by kernel_rfl) (by kernel_rfl)
theorem reads (os:Os){H:Type}(enc:TypeId×Value->H):∃ places,DataW.whole enc Tryz.prog ((zQS os).forCall (λ_ _=>0) ⟨#[],#[zAk4],[]⟩).memory Tryz.f7.params.toList Rows.planLinesSpec.vars false #[zAk4].toList 8=some ([.agg [.nil,.nil,.agg [.lit (.int .i64 0),.lit (.string []),.agg [.lit (.string []),.agg [.agg [.lit (.int .i64 0),.lit (.int .i64 0),.lit (.int .i64 0)],.lit (.string [])]],.lit (.int .i64 0)]]],[],places) :=
 ⟨[],by kernel_rfl⟩
end Go.Proofs.YticdfkoncnnmmaaGreatDoor.planLines
