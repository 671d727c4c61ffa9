import Derived.Test.YticdfkoncnnmmaaGreatDoorGI
import Derived.Test.YticdfkoncnnmmaaGreatDoorGU
import Derived.Test.YticdfkoncnnmmaaGreatDoorGO
import Derived.Test.YticdfkoncnnmmaaGreatDoorGE
import Derived.Test.YticdfkoncnnmmaaGreatDoorCards
import Derived.Test.YticdfkoncnnmmaaGreatDoorTie
import Derived.WalkKit
import Derived.ProofKit
import Derived.OpenShut
import Derived.Below
import Derived.Deep.DeepHandedRow
import Derived.Lib.LaidTab
set_option linter.unusedSimpArgs false
set_option linter.unusedVariables false
set_option maxRecDepth 100000
namespace Go.Proofs.YticdfkoncnnmmaaGreatDoor
open Go.X Go.X.Diff
theorem At.mid {h:zAw}{q n o:Nat}{A B C B':List Value}(a:At h q (A++B++C))(ho:A.length=o)(hB:B.length=n)(hB':B'.length=n)(h1:∀ c∈B',c.oneCell'=true) :
  ∃ h',stN n h (Ptr q o) (.agg B'.toArray)=some h'/\At h' q (A++B'++C)/\Keep (· = q) h h':=by
 obtain⟨T,a⟩:=a
 have:=zPp (n:=n) (o:=o) (A:=A) (B:=B) (C:=C) (B':=B') a ho.symm hB.symm hB' (zU6 h1)
 exact⟨_,this,⟨T,zBm a⟩,Keep.set rfl⟩
theorem bcells_one {l:List UInt8}:∀ c∈zBB l,c.oneCell'=true:=by
 intro c hc
 simp only[zBB,zAo]at hc
 obtain⟨x,_,rfl⟩:=hc;rfl
structure zAmS (a:zAgl):Prop where
 bef:∀ x∈a.bef,x.wf
 aft:∀ x∈a.aft,x.wf
 r:a.r.length=32
theorem Items.bound {P:zA2}{H:zAw}{v:Value}{xs:List Item}(h:Items P H v xs):Items (λb=>P b/\b<H.size) H v xs:=by
 obtain⟨⟨hex,hel,hone⟩,hw⟩:=h
 obtain⟨a,c,hve,hc,hx⟩:=hex
 exact⟨⟨⟨a,c,hve,hc,hx.imp id λ⟨b,o,e,hb,hpt⟩=>⟨b,o,e,⟨hb,hpt.lt⟩,hpt⟩⟩,hel,hone⟩,hw⟩
def zAhS (H:zAw)(v:Value)(l:List UInt8):Prop:=Bs H v l/\∃ a c,v = .slice a l.length c
theorem zAhS.keep {H H':zAw}{v:Value}{l:List UInt8}(h:zAhS H v l)(k:Keep zAM H H'):zAhS H' v l:=⟨h.1.keep k λ_ _=>id,h.2⟩
theorem zAhS.b2s {H:zAw}{v:Value}{l:List UInt8}(h:zAhS H v l):Go.X.b2s H v=some (str l):=by
 obtain⟨a,c,rfl⟩:=h.2
 exact h.1.b2s λs e=>by cases e
theorem zAhS.len {H:zAw}{v:Value}{l:List UInt8}(h:zAhS H v l):zDD v=some (.int .i64 l.length):=by
 obtain⟨a,c,rfl⟩:=h.2;rfl
theorem _root_.Go.X.Buf.bound {F:zA2}{H:zAw}{v:Value}{l:List UInt8}(h:Buf F H v l):Buf (λb=>F b/\b<H.size) H v l:=by
 rcases h with h|⟨b,o,c,cs,T,f,e,hf,hc,hb,hr⟩
 ·exact .inl h
 ·exact .inr ⟨b,o,c,cs,T,f,e,⟨hf,lt_of hb⟩,hc,hb,hr⟩
theorem Items.slice {P:zA2}{H:zAw}{v:Value}{xs:List Item}(h:Items P H v xs):∃ a c,v = .slice a xs.length c:=by
 obtain⟨⟨⟨a,c,rfl,_⟩,_⟩,_⟩:=h;exact⟨a,c,by simp⟩
end Go.Proofs.YticdfkoncnnmmaaGreatDoor
namespace Go.Proofs.YticdfkoncnnmmaaGreatDoor.Came
open Go.X
theorem own:ownKnob Tryz.prog.godebug=none:=by kernel_rfl
theorem zAhT:laidOutB Tryz.prog=true:=by kernel_rfl
theorem zAjM:Tryz.prog.underlying 4=some .bool:=by kernel_rfl
noncomputable def zAbo (t:TypeId)(l:List (Nat×TypeId)):Bool:=match prg.underlying t with
 | some (.struct fs)=>fs.toList.map (λf=>(f.offset,f.type)) == l
 | _=>false
theorem zNp {w:World}{d:Nat}{t:TypeId}{l:List (Nat×TypeId)}{cs:List Value}(hl:zAbo t l=true)(h:Shp prg w d t cs):∃ d',cs.length=prg.cellsOf t/\∀ (i o:Nat) (ty:TypeId),l[i]? = some (o,ty)->Shp prg w d' ty ((cs.drop o).take (prg.cellsOf ty)):=by
 unfold zAbo at hl
 split at hl
 ·rename_i fs hu
  obtain⟨d',h1,h2⟩:=zAav hu h
  refine⟨d',h1,λi o ty hi=>?_⟩
  have e:=eq_of_beq hl
  rw[<- e,zAp]at hi
  obtain⟨f,hf,he⟩:=zBy.1 hi
  cases he
  exact h2 i f (by simpa using hf)
 ·cases hl
theorem zAhU:prg.underlying zHC=some (.int .i64):=by kernel_rfl
theorem zOA:prg.underlying zBd=some .string:=by kernel_rfl
theorem zAjN:∃ e,prg.underlying zCf=some (.array 32 e)/\prg.underlying e=some (.int .u8)/\prg.cellsOf e=1:=⟨zCg,by kernel_rfl,by kernel_rfl,by kernel_rfl⟩
theorem zAmT:∃ t e,(prg.underlying zAU).isSome=true/\zAbo zAU [(0,t),(3,zBd)]=true/\prg.underlying t=some (.array 3 e)/\prg.underlying e=some (.int .i64)/\prg.cellsOf e=1/\prg.cellsOf t=3:=⟨zAeB,zHC,by kernel_rfl,by kernel_rfl,by kernel_rfl,by kernel_rfl,by kernel_rfl,by kernel_rfl⟩
theorem zOc:prg.cellsOf zBd=1:=by kernel_rfl
theorem zAcu:prg.cellsOf zAU=4:=by kernel_rfl
theorem zAcv:prg.cellsOf zCf=32:=by kernel_rfl
theorem str_of {s:ByteArray}(h:s.size<=maxLen):∃ l:List UInt8,Value.string s=str l/\l.length<=9223372036854775807:=⟨s.data.toList,by cases s;rfl,by
 have:s.data.toList.length=s.size:=by cases s;rfl
 rw[this];exact h⟩
theorem zAgq {w:World}{d:Nat}{cs:List Value}(h:Shp prg w d zAU cs):∃ v:Ver,v.wf/\cs=zED v:=by
 obtain⟨t,e,_,hf,ha,he,hc,hn⟩:=zAmT
 obtain⟨d',hl,hfl⟩:=zNp hf h
 rw[zAcu]at hl
 have h0:=hfl 0 0 t rfl
 have h1:=hfl 1 3 zBd rfl
 rw[hn]at h0;rw[zOc]at h1
 obtain⟨p,hp,hpc,_⟩:=zZh ha he hc hn h0
 obtain⟨s,hs,hsl⟩:=zR5 zOA h1
 obtain⟨l,hsl',hll⟩:=str_of hsl
 refine⟨⟨p,l⟩,⟨hp,hll⟩,?_⟩
 have e1:cs=cs.take 3++cs.drop 3:=(zBu 3 cs).symm
 rw[e1]
 rw[zBY]at hpc
 rw[zAs (by simp;omega)]at hs
 rw[hpc,hs,hsl'];rfl
theorem zAhV:prg.globalNamed "syngraph/sha.begin" = some zMr:=by kernel_rfl
theorem zAhW:prg.globalNamed "syngraph/sha.table" = some zIZ:=by kernel_rfl
theorem zAcw:prg.globalNamed "internal/strconv.uint64pow10" = some zDR:=by kernel_rfl
theorem zAlq:(begin Tryz.prog (λ_ _=>0) default).world.heap.size > NG/\Tryz.prog.globals.size=NG:=⟨of_decide_eq_true (by kernel_rfl),by kernel_rfl⟩
theorem zAkY {W:World}(ho:W.ShapedOpen Tryz.prog):NG<=W.heap.size:=by
 obtain⟨h1,h2⟩:=zAlq
 obtain⟨o,_,ho,_⟩:=ho.2 NG (by rw[h2];exact zAh _) h1
 exact Nat.le_of_lt (Go.X.lt_of ho)
theorem tables {W:World}(h:laidMetH Tryz.prog Rows.planMakesRow.laid W)(ho:W.ShapedOpen Tryz.prog):zTa W.heap/\zWi W.heap:=by
 have h:laidMet Tryz.prog Rows.planMakesRow.laid W:=h
 obtain⟨ps,hv,_⟩:=h
 refine⟨⟨?_,?_,zAkY ho⟩,⟨?_,zAkY ho⟩⟩
 ·exact zWQ (t:=zFb) (e:=zZc) (n:=8) zAhV (by kernel_rfl) (by kernel_rfl) (by kernel_rfl) (by kernel_rfl) (by kernel_rfl) hv (by repeat (first|exact List.Mem.head _|refine List.Mem.tail _ ?_))
 ·exact zWQ (t:=zHN) (e:=zZc) (n:=64) zAhW (by kernel_rfl) (by kernel_rfl) (by kernel_rfl) (by kernel_rfl) (by kernel_rfl) hv (by repeat (first|exact List.Mem.head _|refine List.Mem.tail _ ?_))
 ·exact zWQ (t:=zSE) (e:=zZd) (n:=20) zAcw (by kernel_rfl) (by kernel_rfl) (by kernel_rfl) (by kernel_rfl) (by kernel_rfl) hv (by repeat (first|exact List.Mem.head _|refine List.Mem.tail _ ?_))
def flat:DataW Unit->List Value
 | .agg l=>l.map fun
  | .lit (.int k n) => .int k n
  | _ => .bool false
 | _=>[]
def zAlr:DataW Unit->List Value
 | .agg l=>l.flatMap flat
 | _=>[]
def lay (h:Array Obj)(g:Nat)(cs:List Value):Array Obj:=h.modify g fun
 | .cells _ t fr => .cells cs.toArray t fr
 | o=>o
theorem zAhX {n:Int}(h:(Lit.int .i64 n).wf=true) : -9223372036854775808<=n/\n<=9223372036854775807:=by
 simp only[Lit.wf,IntKind.min,IntKind.max,IntKind.signed,IntKind.bits]at h
 simp at h
 omega
def zAls {H:Type}(zs:List (List UInt8)):DataW H := .agg (zs.map λl => .lit (.string l))
theorem zVY {H:Type}{enc:TypeId×Value->H}{P:Program}{w:World}{base:Nat}{sp:Nat->Bool}{held:Bool}{fuel:Nat}{t e:TypeId}{n:Nat}{cs:List Value}{zs:List (List UInt8)}{p:List MemPlace}
  (ht:P.underlying t=some (.array n e)) (he:P.underlying e=some .string) (hce:P.cellsOf e=1) (hct:P.cellsOf t=n)
  (h:DataW.trod enc P w base sp held fuel t cs=some (zAls zs,p)):cs=zs.map str:=by
 cases fuel with
 | zero=>simp[DataW.trod]at h
 | succ fuel =>
  simp only[DataW.trod,ht,hce,hct,zCt]at h
  split at h
  ·rename_i hl
   obtain⟨xs,hm,hx⟩:=zBy.1 h
   have hxs:xs.map (·.1)=zs.map λz=>(DataW.lit (.string z):DataW H):=by
    have:=congrArg Prod.fst hx
    simpa [zAls] using this
   have hxl:xs.length=n:=by simpa using Lib.mapM_length hm
   have hzl:zs.length=n:=by
    have:=congrArg List.length hxs
    simp at this
    omega
   apply zCP
   intro i
   by_cases hi:i<n
   ·obtain⟨b,hb,hf⟩:=Lib.mapM_at hm i i (by simp[hi])
    obtain⟨s,hc,rfl,_⟩:=DataW.trod_string he hf
    have h1:cs[i]? = some (.string s):=by
     have:=congrArg (·[0]?) hc
     simpa [zCl,zC5] using this
    have h2:(xs.map (·.1))[i]? = some (DataW.lit (.string s.data.toList):DataW H):=by simp[hb]
    rw[hxs]at h2
    simp only[zAp,zBy,DataW.lit.injEq,Lit.string.injEq]at h2
    obtain⟨z',hz',rfl⟩:=h2
    rw[zAp,hz',h1]
    obtain⟨a⟩:=s
    simp
   ·rw[zDe (by omega),zDe (by simp;omega)]
  ·cases h
theorem zZG {P:Program}{w:World}{name:String}{g:Nat}{t:TypeId}{dd:DataW Unit}(hg:P.globalNamed name=some g)(hty:(P.globals[g]?).map (·.type)=some t) :
  ∀ {l:List (String×DataW Unit)} {ps:List MemPlace},DataW.LaidVars P w l ps->(name,dd)∈l->∃ cs T f fuel p,w.heap[g]? = some (.cells cs T f)/\DataW.trod (λ_=>()) P w 0 (λ_=>true) false fuel t cs.toList=some (dd,p)
 | [],_,_,hm=>by cases hm
 | (nm,d)::r,ps,h,hm=>by
  obtain⟨g',t',cs,fuel,p,q,hg',ht',hvar,hd,hrest,_⟩:=h
  rcases zAr.1 hm with he'|hm
  ·cases he'
   obtain rfl:=zAK (hg.symm.trans hg')
   obtain rfl:=zAK (hty.symm.trans ht')
   unfold World.var? at hvar
   rw[hg,zAY]at hvar
   split at hvar
   ·rename_i cs' T f hb
    cases zAK hvar
    exact⟨_,T,f,fuel,p,hb,hd⟩
   ·cases hvar
  ·exact zZG hg hty hrest hm
theorem zZH {P:Program}{w:World}{t:TypeId}{ms:Array (String×TypeId)}{cs:List Value}{fuel:Nat}{nm:String}{d:DataW Unit}{p:List MemPlace}(ht:P.underlying t=some (.interface ms))(h:DataW.trod (λ_=>()) P w 0 (λ_=>true) false fuel t cs=some (.iface nm d,p)) :
  ∃ T x,cs=[.iface T x]:=by
 cases fuel with
 | zero=>simp[DataW.trod]at h
 | succ fuel =>
  unfold DataW.trod at h
  rw[ht]at h
  split at h<;>first
   | (rename_i hq;cases hq;done)
   | (cases h;done)
   | exact⟨_,_,rfl⟩
theorem zYp:prg.globalNamed "strconv.ErrSyntax" = some zDs:=by kernel_rfl
theorem zAaH:prg.globalNamed "strconv.ErrRange" = some zDy:=by kernel_rfl
theorem zAlt:∃ t ms,(prg.globals[zDs]?).map (·.type)=some t/\(prg.globals[zDy]?).map (·.type)=some t/\prg.underlying t=some (.interface ms):=by
 have h:(match (prg.globals[zDs]?).map (·.type),(prg.globals[zDy]?).map (·.type) with
  | some t,some t'=>Nat.beq t t'&&(match prg.underlying t with|some (.interface _)=>true|_=>false)
  | _,_=>false)=true:=by kernel_rfl
 split at h
 ·rename_i t t' h1 h2
  simp only[zAk]at h
  obtain⟨h3,h4⟩:=h
  have e:=zA6 h3
  subst e
  split at h4
  ·rename_i ms hu
   exact⟨t,ms,h1,h2,hu⟩
  ·cases h4
 ·cases h
theorem zAjO:zAbo zBL [(0,zBd),(1,zAU)]=true:=by kernel_rfl
theorem zYq:prg.cellsOf zBL=5:=by kernel_rfl
theorem zAcx {w:World}{d:Nat}{cs:List Value}(h:Shp prg w d zBL cs):∃ x:zSO,x.wf/\cs=zFf x:=by
 obtain⟨d',hl,hfl⟩:=zNp zAjO h
 rw[zYq]at hl
 have h0:=hfl 0 0 zBd rfl
 have h1:=hfl 1 1 zAU rfl
 rw[zOc]at h0;rw[zAcu]at h1
 obtain⟨s,hs,hsl⟩:=zR5 zOA h0
 obtain⟨n,hsn,hnl⟩:=str_of hsl
 obtain⟨v,hv,hvc⟩:=zAgq h1
 refine⟨⟨n,v⟩,⟨hv,hnl⟩,?_⟩
 have e1:cs=(cs.drop 0).take 1++(cs.drop 1).take 4:=by
  rw[zAs (l:=cs.drop 1) (by simp;omega),zBY]
  exact(zBu 1 cs).symm
 rw[e1,hs,hvc,hsn];rfl
theorem zAlu:prg.globalNamed "syngraph/version.ops" = some zEq:=by kernel_rfl
theorem zAlv:∃ t,(prg.globals[zEq]?).map (·.type)=some t/\prg.underlying t=some (.array 8 zBd)/\prg.cellsOf t=8:=⟨zX7,by kernel_rfl,by kernel_rfl,by kernel_rfl⟩
def zAlw:DataW Unit->List Value
 | .agg l=>l.map fun
  | .lit (.string s) => .string ⟨s.toArray⟩
  | _ => .bool false
 | _=>[]
def zAaI (h:Array Obj):Array Obj :=
 ((lay (lay (lay (lay (lay (lay (lay (lay h zNx (flat Rows.laid_math_bits_deBruijn32tab)) zNy (flat Rows.laid_math_bits_deBruijn64tab)) zDR (flat Rows.laid_internal_strconv_uint64pow10)) zMs (zAlr Rows.laid_unicode_utf8_acceptRanges)) zQc (flat Rows.laid_unicode_utf8_first))
  zEq (zAlw Rows.laid_syngraph_version_ops))
  zDy [.iface zJ9 (.pointer (some ⟨h.size,0,none⟩))])
  zDs [.iface zJ9 (.pointer (some ⟨h.size+1,0,none⟩))]).push
  (.cells #[.string ⟨#[118,97,108,117,101,32,111,117,116,32,111,102,32,114,97,110,103,101]⟩] zLI (0,0))).push
  (.cells #[.string ⟨#[105,110,118,97,108,105,100,32,115,121,110,116,97,120]⟩] zLI (0,0))
end Go.Proofs.YticdfkoncnnmmaaGreatDoor.Came
