import Derived.Test.YticdfkoncnnmmaaGreatDoorGI
import Derived.Test.YticdfkoncnnmmaaGreatDoorGU
import Derived.Test.YticdfkoncnnmmaaGreatDoorGO
import Derived.Test.YticdfkoncnnmmaaGreatDoorGE
import Derived.Test.YticdfkoncnnmmaaGreatDoorCards
import Derived.Test.YticdfkoncnnmmaaGreatDoorTie
import Derived.WalkKit
import Derived.ProofKit
import Derived.OpenShut
import Derived.Below
import Derived.Deep.DeepHandedRow
import Derived.Lib.LaidTab
set_option linter.unusedSimpArgs false
set_option linter.unusedVariables false
set_option maxRecDepth 100000
namespace Go.Proofs.YticdfkoncnnmmaaGreatDoor
open Go.X Go.X.Diff
theorem At.mid {h:zAw}{q n o:Nat}{A B C B':List Value}(a:At h q (A++B++C))(ho:A.length=o)(hB:B.length=n)(hB':B'.length=n)(h1:∀ c∈B',c.oneCell'=true) :
  ∃ h',stN n h (Ptr q o) (.agg B'.toArray)=some h'/\At h' q (A++B'++C)/\Keep (· = q) h h':=by
 obtain⟨T,a⟩:=a
 have:=zOA (n:=n) (o:=o) (A:=A) (B:=B) (C:=C) (B':=B') a ho.symm hB.symm hB' (zTS h1)
 exact⟨_,this,⟨T,zBh a⟩,Keep.set rfl⟩
theorem bcells_one {l:List UInt8}:∀ c∈zBG l,c.oneCell'=true:=by
 intro c hc
 simp only[zBG,zAo]at hc
 obtain⟨x,_,rfl⟩:=hc;rfl
structure zAk8 (a:zAeC):Prop where
 bef:∀ x∈a.bef,x.wf
 aft:∀ x∈a.aft,x.wf
 r:a.r.length=32
theorem Items.bound {P:zAY}{H:zAw}{v:Value}{xs:List Item}(h:Items P H v xs):Items (λb=>P b/\b<H.size) H v xs:=by
 obtain⟨⟨hex,hel,hone⟩,hw⟩:=h
 obtain⟨a,c,hve,hc,hx⟩:=hex
 exact⟨⟨⟨a,c,hve,hc,hx.imp id λ⟨b,o,e,hb,hpt⟩=>⟨b,o,e,⟨hb,hpt.lt⟩,hpt⟩⟩,hel,hone⟩,hw⟩
def zAgb (H:zAw)(v:Value)(l:List UInt8):Prop:=Bs H v l/\∃ a c,v = .slice a l.length c
theorem zAgb.keep {H H':zAw}{v:Value}{l:List UInt8}(h:zAgb H v l)(k:Keep zAK H H'):zAgb H' v l:=⟨h.1.keep k λ_ _=>id,h.2⟩
theorem zAgb.b2s {H:zAw}{v:Value}{l:List UInt8}(h:zAgb H v l):Go.X.b2s H v=some (str l):=by
 obtain⟨a,c,rfl⟩:=h.2
 exact h.1.b2s λs e=>by cases e
theorem zAgb.len {H:zAw}{v:Value}{l:List UInt8}(h:zAgb H v l):zDA v=some (.int .i64 l.length):=by
 obtain⟨a,c,rfl⟩:=h.2;rfl
theorem _root_.Go.X.Buf.bound {F:zAY}{H:zAw}{v:Value}{l:List UInt8}(h:Buf F H v l):Buf (λb=>F b/\b<H.size) H v l:=by
 rcases h with h|⟨b,o,c,cs,T,f,e,hf,hc,hb,hr⟩
 ·exact .inl h
 ·exact .inr ⟨b,o,c,cs,T,f,e,⟨hf,lt_of hb⟩,hc,hb,hr⟩
theorem Items.slice {P:zAY}{H:zAw}{v:Value}{xs:List Item}(h:Items P H v xs):∃ a c,v = .slice a xs.length c:=by
 obtain⟨⟨⟨a,c,rfl,_⟩,_⟩,_⟩:=h;exact⟨a,c,by simp⟩
end Go.Proofs.YticdfkoncnnmmaaGreatDoor
namespace Go.Proofs.YticdfkoncnnmmaaGreatDoor.Came
open Go.X
theorem own:ownKnob Tryz.prog.godebug=none:=by kernel_rfl
theorem zAgc:laidOutB Tryz.prog=true:=by kernel_rfl
theorem zAh2:Tryz.prog.underlying 4=some .bool:=by kernel_rfl
noncomputable def zZU (t:TypeId)(l:List (Nat×TypeId)):Bool:=match prg.underlying t with
 | some (.struct fs)=>fs.toList.map (λf=>(f.offset,f.type)) == l
 | _=>false
theorem zMC {w:World}{d:Nat}{t:TypeId}{l:List (Nat×TypeId)}{cs:List Value}(hl:zZU t l=true)(h:Shp prg w d t cs):∃ d',cs.length=prg.cellsOf t/\∀ (i o:Nat) (ty:TypeId),l[i]? = some (o,ty)->Shp prg w d' ty ((cs.drop o).take (prg.cellsOf ty)):=by
 unfold zZU at hl
 split at hl
 ·rename_i fs hu
  obtain⟨d',h1,h2⟩:=zY2 hu h
  refine⟨d',h1,λi o ty hi=>?_⟩
  have e:=eq_of_beq hl
  rw[<- e,zAq]at hi
  obtain⟨f,hf,he⟩:=zBu.1 hi
  cases he
  exact h2 i f (by simpa using hf)
 ·cases hl
theorem zAgd:prg.underlying zHb=some (.int .i64):=by kernel_rfl
theorem zNS:prg.underlying zBW=some .string:=by kernel_rfl
theorem zAh3:∃ e,prg.underlying zCt=some (.array 32 e)/\prg.underlying e=some (.int .u8)/\prg.cellsOf e=1:=⟨zCi,by kernel_rfl,by kernel_rfl,by kernel_rfl⟩
theorem zAk9:∃ t e,(prg.underlying zAQ).isSome=true/\zZU zAQ [(0,t),(3,zBW)]=true/\prg.underlying t=some (.array 3 e)/\prg.underlying e=some (.int .i64)/\prg.cellsOf e=1/\prg.cellsOf t=3:=⟨zAcY,zHb,by kernel_rfl,by kernel_rfl,by kernel_rfl,by kernel_rfl,by kernel_rfl,by kernel_rfl⟩
theorem zNv:prg.cellsOf zBW=1:=by kernel_rfl
theorem zAa2:prg.cellsOf zAQ=4:=by kernel_rfl
theorem zAa3:prg.cellsOf zCt=32:=by kernel_rfl
theorem str_of {s:ByteArray}(h:s.size<=maxLen):∃ l:List UInt8,Value.string s=str l/\l.length<=9223372036854775807:=⟨s.data.toList,by cases s;rfl,by
 have:s.data.toList.length=s.size:=by cases s;rfl
 rw[this];exact h⟩
theorem zAeH {w:World}{d:Nat}{cs:List Value}(h:Shp prg w d zAQ cs):∃ v:Ver,v.wf/\cs=zEt v:=by
 obtain⟨t,e,_,hf,ha,he,hc,hn⟩:=zAk9
 obtain⟨d',hl,hfl⟩:=zMC hf h
 rw[zAa2]at hl
 have h0:=hfl 0 0 t rfl
 have h1:=hfl 1 3 zBW rfl
 rw[hn]at h0;rw[zNv]at h1
 obtain⟨p,hp,hpc,_⟩:=zXV ha he hc hn h0
 obtain⟨s,hs,hsl⟩:=zRa zNS h1
 obtain⟨l,hsl',hll⟩:=str_of hsl
 refine⟨⟨p,l⟩,⟨hp,hll⟩,?_⟩
 have e1:cs=cs.take 3++cs.drop 3:=(zBn 3 cs).symm
 rw[e1]
 rw[zCb]at hpc
 rw[zAs (by simp;omega)]at hs
 rw[hpc,hs,hsl'];rfl
theorem zAge:prg.globalNamed "syngraph/sha.begin" = some zLH:=by kernel_rfl
theorem zAgf:prg.globalNamed "syngraph/sha.table" = some zIr:=by kernel_rfl
theorem zAa4:prg.globalNamed "internal/strconv.uint64pow10" = some zDD:=by kernel_rfl
theorem zAjK:(begin Tryz.prog (λ_ _=>0) default).world.heap.size > NG/\Tryz.prog.globals.size=NG:=⟨of_decide_eq_true (by kernel_rfl),by kernel_rfl⟩
theorem zAje {W:World}(ho:W.ShapedOpen Tryz.prog):NG<=W.heap.size:=by
 obtain⟨h1,h2⟩:=zAjK
 obtain⟨o,_,ho,_⟩:=ho.2 NG (by rw[h2];exact zAi _) h1
 exact Nat.le_of_lt (Go.X.lt_of ho)
theorem tables {W:World}(h:laidMetH Tryz.prog Rows.planMakesRow.laid W)(ho:W.ShapedOpen Tryz.prog):zTl W.heap/\zAdc W.heap:=by
 have h:laidMet Tryz.prog Rows.planMakesRow.laid W:=h
 obtain⟨ps,hv,_⟩:=h
 refine⟨⟨?_,?_,zAje ho⟩,⟨?_,zAje ho⟩⟩
 ·exact zVG (t:=zEO) (e:=zXQ) (n:=8) zAge (by kernel_rfl) (by kernel_rfl) (by kernel_rfl) (by kernel_rfl) (by kernel_rfl) hv (by repeat (first|exact List.Mem.head _|refine List.Mem.tail _ ?_))
 ·exact zVG (t:=zHl) (e:=zXQ) (n:=64) zAgf (by kernel_rfl) (by kernel_rfl) (by kernel_rfl) (by kernel_rfl) (by kernel_rfl) hv (by repeat (first|exact List.Mem.head _|refine List.Mem.tail _ ?_))
 ·exact zVG (t:=zRD) (e:=zXR) (n:=20) zAa4 (by kernel_rfl) (by kernel_rfl) (by kernel_rfl) (by kernel_rfl) (by kernel_rfl) hv (by repeat (first|exact List.Mem.head _|refine List.Mem.tail _ ?_))
def flat:DataW Unit->List Value
 | .agg l=>l.map fun
  | .lit (.int k n) => .int k n
  | _ => .bool false
 | _=>[]
def zAjL:DataW Unit->List Value
 | .agg l=>l.flatMap flat
 | _=>[]
def lay (h:Array Obj)(g:Nat)(cs:List Value):Array Obj:=h.modify g fun
 | .cells _ t fr => .cells cs.toArray t fr
 | o=>o
theorem zAgg {n:Int}(h:(Lit.int .i64 n).wf=true) : -9223372036854775808<=n/\n<=9223372036854775807:=by
 simp only[Lit.wf,IntKind.min,IntKind.max,IntKind.signed,IntKind.bits]at h
 simp at h
 omega
def zAjM {H:Type}(zs:List (List UInt8)):DataW H := .agg (zs.map λl => .lit (.string l))
theorem zUN {H:Type}{enc:TypeId×Value->H}{P:Program}{w:World}{base:Nat}{sp:Nat->Bool}{held:Bool}{fuel:Nat}{t e:TypeId}{n:Nat}{cs:List Value}{zs:List (List UInt8)}{p:List MemPlace}
  (ht:P.underlying t=some (.array n e)) (he:P.underlying e=some .string) (hce:P.cellsOf e=1) (hct:P.cellsOf t=n)
  (h:DataW.trod enc P w base sp held fuel t cs=some (zAjM zs,p)):cs=zs.map str:=by
 cases fuel with
 | zero=>simp[DataW.trod]at h
 | succ fuel =>
  simp only[DataW.trod,ht,hce,hct,zCA]at h
  split at h
  ·rename_i hl
   obtain⟨xs,hm,hx⟩:=zBu.1 h
   have hxs:xs.map (·.1)=zs.map λz=>(DataW.lit (.string z):DataW H):=by
    have:=congrArg Prod.fst hx
    simpa [zAjM] using this
   have hxl:xs.length=n:=by simpa using Lib.mapM_length hm
   have hzl:zs.length=n:=by
    have:=congrArg List.length hxs
    simp at this
    omega
   apply zCI
   intro i
   by_cases hi:i<n
   ·obtain⟨b,hb,hf⟩:=Lib.mapM_at hm i i (by simp[hi])
    obtain⟨s,hc,rfl,_⟩:=DataW.trod_string he hf
    have h1:cs[i]? = some (.string s):=by
     have:=congrArg (·[0]?) hc
     simpa [zCd,zCW] using this
    have h2:(xs.map (·.1))[i]? = some (DataW.lit (.string s.data.toList):DataW H):=by simp[hb]
    rw[hxs]at h2
    simp only[zAq,zBu,DataW.lit.injEq,Lit.string.injEq]at h2
    obtain⟨z',hz',rfl⟩:=h2
    rw[zAq,hz',h1]
    obtain⟨a⟩:=s
    simp
   ·rw[zC3 (by omega),zC3 (by simp;omega)]
  ·cases h
theorem zYi {P:Program}{w:World}{name:String}{g:Nat}{t:TypeId}{dd:DataW Unit}(hg:P.globalNamed name=some g)(hty:(P.globals[g]?).map (·.type)=some t) :
  ∀ {l:List (String×DataW Unit)} {ps:List MemPlace},DataW.LaidVars P w l ps->(name,dd)∈l->∃ cs T f fuel p,w.heap[g]? = some (.cells cs T f)/\DataW.trod (λ_=>()) P w 0 (λ_=>true) false fuel t cs.toList=some (dd,p)
 | [],_,_,hm=>by cases hm
 | (nm,d)::r,ps,h,hm=>by
  obtain⟨g',t',cs,fuel,p,q,hg',ht',hvar,hd,hrest,_⟩:=h
  rcases zAp.1 hm with he'|hm
  ·cases he'
   obtain rfl:=zAF (hg.symm.trans hg')
   obtain rfl:=zAF (hty.symm.trans ht')
   unfold World.var? at hvar
   rw[hg,zAT]at hvar
   split at hvar
   ·rename_i cs' T f hb
    cases zAF hvar
    exact⟨_,T,f,fuel,p,hb,hd⟩
   ·cases hvar
  ·exact zYi hg hty hrest hm
theorem zYj {P:Program}{w:World}{t:TypeId}{ms:Array (String×TypeId)}{cs:List Value}{fuel:Nat}{nm:String}{d:DataW Unit}{p:List MemPlace}(ht:P.underlying t=some (.interface ms))(h:DataW.trod (λ_=>()) P w 0 (λ_=>true) false fuel t cs=some (.iface nm d,p)) :
  ∃ T x,cs=[.iface T x]:=by
 cases fuel with
 | zero=>simp[DataW.trod]at h
 | succ fuel =>
  unfold DataW.trod at h
  rw[ht]at h
  split at h<;>first
   | (rename_i hq;cases hq;done)
   | (cases h;done)
   | exact⟨_,_,rfl⟩
theorem zW6:prg.globalNamed "strconv.ErrSyntax" = some zDi:=by kernel_rfl
theorem zZe:prg.globalNamed "strconv.ErrRange" = some zDn:=by kernel_rfl
theorem zAjN:∃ t ms,(prg.globals[zDi]?).map (·.type)=some t/\(prg.globals[zDn]?).map (·.type)=some t/\prg.underlying t=some (.interface ms):=by
 have h:(match (prg.globals[zDi]?).map (·.type),(prg.globals[zDn]?).map (·.type) with
  | some t,some t'=>Nat.beq t t'&&(match prg.underlying t with|some (.interface _)=>true|_=>false)
  | _,_=>false)=true:=by kernel_rfl
 split at h
 ·rename_i t t' h1 h2
  simp only[zAm]at h
  obtain⟨h3,h4⟩:=h
  have e:=zA2 h3
  subst e
  split at h4
  ·rename_i ms hu
   exact⟨t,ms,h1,h2,hu⟩
  ·cases h4
 ·cases h
theorem zAh4:zZU zBO [(0,zBW),(1,zAQ)]=true:=by kernel_rfl
theorem zW7:prg.cellsOf zBO=5:=by kernel_rfl
theorem zAa5 {w:World}{d:Nat}{cs:List Value}(h:Shp prg w d zBO cs):∃ x:zSW,x.wf/\cs=zEQ x:=by
 obtain⟨d',hl,hfl⟩:=zMC zAh4 h
 rw[zW7]at hl
 have h0:=hfl 0 0 zBW rfl
 have h1:=hfl 1 1 zAQ rfl
 rw[zNv]at h0;rw[zAa2]at h1
 obtain⟨s,hs,hsl⟩:=zRa zNS h0
 obtain⟨n,hsn,hnl⟩:=str_of hsl
 obtain⟨v,hv,hvc⟩:=zAeH h1
 refine⟨⟨n,v⟩,⟨hv,hnl⟩,?_⟩
 have e1:cs=(cs.drop 0).take 1++(cs.drop 1).take 4:=by
  rw[zAs (l:=cs.drop 1) (by simp;omega),zCb]
  exact(zBn 1 cs).symm
 rw[e1,hs,hvc,hsn];rfl
theorem zAjO:prg.globalNamed "syngraph/version.ops" = some zD6:=by kernel_rfl
theorem zAjP:∃ t,(prg.globals[zD6]?).map (·.type)=some t/\prg.underlying t=some (.array 8 zBW)/\prg.cellsOf t=8:=⟨zWL,by kernel_rfl,by kernel_rfl,by kernel_rfl⟩
def zAjQ:DataW Unit->List Value
 | .agg l=>l.map fun
  | .lit (.string s) => .string ⟨s.toArray⟩
  | _ => .bool false
 | _=>[]
def zZf (h:Array Obj):Array Obj :=
 ((lay (lay (lay (lay (lay (lay (lay (lay h zML (flat Rows.laid_math_bits_deBruijn32tab)) zMM (flat Rows.laid_math_bits_deBruijn64tab)) zDD (flat Rows.laid_internal_strconv_uint64pow10)) zLI (zAjL Rows.laid_unicode_utf8_acceptRanges)) zPi (flat Rows.laid_unicode_utf8_first))
  zD6 (zAjQ Rows.laid_syngraph_version_ops))
  zDn [.iface zJz (.pointer (some ⟨h.size,0,none⟩))])
  zDi [.iface zJz (.pointer (some ⟨h.size+1,0,none⟩))]).push
  (.cells #[.string ⟨#[118,97,108,117,101,32,111,117,116,32,111,102,32,114,97,110,103,101]⟩] zK4 (0,0))).push
  (.cells #[.string ⟨#[105,110,118,97,108,105,100,32,115,121,110,116,97,120]⟩] zK4 (0,0))
end Go.Proofs.YticdfkoncnnmmaaGreatDoor.Came
