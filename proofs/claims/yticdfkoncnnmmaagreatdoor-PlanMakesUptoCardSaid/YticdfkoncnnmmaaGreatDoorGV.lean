import Derived.Test.YticdfkoncnnmmaaGreatDoorGI
import Derived.Test.YticdfkoncnnmmaaGreatDoorGU
import Derived.Test.YticdfkoncnnmmaaGreatDoorGO
import Derived.Test.YticdfkoncnnmmaaGreatDoorGE
import Derived.Test.YticdfkoncnnmmaaGreatDoorCards
import Derived.Test.YticdfkoncnnmmaaGreatDoorTie
import Derived.WalkKit
import Derived.ProofKit
import Derived.OpenShut
import Derived.Below
import Derived.Deep.DeepHandedRow
import Derived.Lib.LaidTab
set_option linter.unusedSimpArgs false
set_option linter.unusedVariables false
set_option maxRecDepth 100000
namespace Go.Proofs.YticdfkoncnnmmaaGreatDoor
open Go.X Go.X.Diff
theorem At.mid {h:zAw}{q n o:Nat}{A B C B':List Value}(a:At h q (A++B++C))(ho:A.length=o)(hB:B.length=n)(hB':B'.length=n)(h1:∀ c∈B',c.oneCell'=true) :
  ∃ h',stN n h (Ptr q o) (.agg B'.toArray)=some h'/\At h' q (A++B'++C)/\Keep (· = q) h h':=by
 obtain⟨T,a⟩:=a
 have:=zPN (n:=n) (o:=o) (A:=A) (B:=B) (C:=C) (B':=B') a ho.symm hB.symm hB' (zVm h1)
 exact⟨_,this,⟨T,zBp a⟩,Keep.set rfl⟩
theorem bcells_one {l:List UInt8}:∀ c∈zBD l,c.oneCell'=true:=by
 intro c hc
 simp only[zBD,zAo]at hc
 obtain⟨x,_,rfl⟩:=hc;rfl
structure zAna (a:zAgC):Prop where
 bef:∀ x∈a.bef,x.wf
 aft:∀ x∈a.aft,x.wf
 r:a.r.length=32
theorem Items.bound {P:zA3}{H:zAw}{v:Value}{xs:List Item}(h:Items P H v xs):Items (λb=>P b/\b<H.size) H v xs:=by
 obtain⟨⟨hex,hel,hone⟩,hw⟩:=h
 obtain⟨a,c,hve,hc,hx⟩:=hex
 exact⟨⟨⟨a,c,hve,hc,hx.imp id λ⟨b,o,e,hb,hpt⟩=>⟨b,o,e,⟨hb,hpt.lt⟩,hpt⟩⟩,hel,hone⟩,hw⟩
def zAie (H:zAw)(v:Value)(l:List UInt8):Prop:=Bs H v l/\∃ a c,v = .slice a l.length c
theorem zAie.keep {H H':zAw}{v:Value}{l:List UInt8}(h:zAie H v l)(k:Keep zAK H H'):zAie H' v l:=⟨h.1.keep k λ_ _=>id,h.2⟩
theorem zAie.b2s {H:zAw}{v:Value}{l:List UInt8}(h:zAie H v l):Go.X.b2s H v=some (str l):=by
 obtain⟨a,c,rfl⟩:=h.2
 exact h.1.b2s λs e=>by cases e
theorem zAie.len {H:zAw}{v:Value}{l:List UInt8}(h:zAie H v l):zDp v=some (.int .i64 l.length):=by
 obtain⟨a,c,rfl⟩:=h.2;rfl
theorem _root_.Go.X.Buf.bound {F:zA3}{H:zAw}{v:Value}{l:List UInt8}(h:Buf F H v l):Buf (λb=>F b/\b<H.size) H v l:=by
 rcases h with h|⟨b,o,c,cs,T,f,e,hf,hc,hb,hr⟩
 ·exact .inl h
 ·exact .inr ⟨b,o,c,cs,T,f,e,⟨hf,lt_of hb⟩,hc,hb,hr⟩
theorem Items.slice {P:zA3}{H:zAw}{v:Value}{xs:List Item}(h:Items P H v xs):∃ a c,v = .slice a xs.length c:=by
 obtain⟨⟨⟨a,c,rfl,_⟩,_⟩,_⟩:=h;exact⟨a,c,by simp⟩
end Go.Proofs.YticdfkoncnnmmaaGreatDoor
namespace Go.Proofs.YticdfkoncnnmmaaGreatDoor.Came
open Go.X
theorem own:ownKnob Tryz.prog.godebug=none:=by kernel_rfl
theorem zAif:laidOutB Tryz.prog=true:=by kernel_rfl
theorem zAj5:Tryz.prog.underlying 4=some .bool:=by kernel_rfl
noncomputable def zAbN (t:TypeId)(l:List (Nat×TypeId)):Bool:=match prg.underlying t with
 | some (.struct fs)=>fs.toList.map (λf=>(f.offset,f.type)) == l
 | _=>false
theorem zNL {w:World}{d:Nat}{t:TypeId}{l:List (Nat×TypeId)}{cs:List Value}(hl:zAbN t l=true)(h:Shp prg w d t cs):∃ d',cs.length=prg.cellsOf t/\∀ (i o:Nat) (ty:TypeId),l[i]? = some (o,ty)->Shp prg w d' ty ((cs.drop o).take (prg.cellsOf ty)):=by
 unfold zAbN at hl
 split at hl
 ·rename_i fs hu
  obtain⟨d',h1,h2⟩:=zAa0 hu h
  refine⟨d',h1,λi o ty hi=>?_⟩
  have e:=eq_of_beq hl
  rw[<- e,zAr]at hi
  obtain⟨f,hf,he⟩:=zBF.1 hi
  cases he
  exact h2 i f (by simpa using hf)
 ·cases hl
theorem zAig:prg.underlying zHL=some (.int .i64):=by kernel_rfl
theorem zOY:prg.underlying zBJ=some .string:=by kernel_rfl
theorem zAj6:∃ e,prg.underlying zCj=some (.array 32 e)/\prg.underlying e=some (.int .u8)/\prg.cellsOf e=1:=⟨zCk,by kernel_rfl,by kernel_rfl,by kernel_rfl⟩
theorem zAnb:∃ t e,(prg.underlying zAT).isSome=true/\zAbN zAT [(0,t),(3,zBJ)]=true/\prg.underlying t=some (.array 3 e)/\prg.underlying e=some (.int .i64)/\prg.cellsOf e=1/\prg.cellsOf t=3:=⟨zAeW,zHL,by kernel_rfl,by kernel_rfl,by kernel_rfl,by kernel_rfl,by kernel_rfl,by kernel_rfl⟩
theorem zOy:prg.cellsOf zBJ=1:=by kernel_rfl
theorem zAcT:prg.cellsOf zAT=4:=by kernel_rfl
theorem zAcU:prg.cellsOf zCj=32:=by kernel_rfl
theorem str_of {s:ByteArray}(h:s.size<=maxLen):∃ l:List UInt8,Value.string s=str l/\l.length<=9223372036854775807:=⟨s.data.toList,by cases s;rfl,by
 have:s.data.toList.length=s.size:=by cases s;rfl
 rw[this];exact h⟩
theorem zAgI {w:World}{d:Nat}{cs:List Value}(h:Shp prg w d zAT cs):∃ v:Ver,v.wf/\cs=zEP v:=by
 obtain⟨t,e,_,hf,ha,he,hc,hn⟩:=zAnb
 obtain⟨d',hl,hfl⟩:=zNL hf h
 rw[zAcT]at hl
 have h0:=hfl 0 0 t rfl
 have h1:=hfl 1 3 zBJ rfl
 rw[hn]at h0;rw[zOy]at h1
 obtain⟨p,hp,hpc,_⟩:=zZP ha he hc hn h0
 obtain⟨s,hs,hsl⟩:=zSA zOY h1
 obtain⟨l,hsl',hll⟩:=str_of hsl
 refine⟨⟨p,l⟩,⟨hp,hll⟩,?_⟩
 have e1:cs=cs.take 3++cs.drop 3:=(zBx 3 cs).symm
 rw[e1]
 rw[zCe]at hpc
 rw[zAp (by simp;omega)]at hs
 rw[hpc,hs,hsl'];rfl
theorem zAih:prg.globalNamed "syngraph/sha.begin" = some zMN:=by kernel_rfl
theorem zAii:prg.globalNamed "syngraph/sha.table" = some zJb:=by kernel_rfl
theorem zAcV:prg.globalNamed "internal/strconv.uint64pow10" = some zDT:=by kernel_rfl
theorem zAlI:(begin Tryz.prog (λ_ _=>0) default).world.heap.size > NG/\Tryz.prog.globals.size=NG:=⟨of_decide_eq_true (by kernel_rfl),by kernel_rfl⟩
theorem zAle {W:World}(ho:W.ShapedOpen Tryz.prog):NG<=W.heap.size:=by
 obtain⟨h1,h2⟩:=zAlI
 obtain⟨o,_,ho,_⟩:=ho.2 NG (by rw[h2];exact zAi _) h1
 exact Nat.le_of_lt (Go.X.lt_of ho)
theorem tables {W:World}(h:laidMetH Tryz.prog Rows.planMakesRow.laid W)(ho:W.ShapedOpen Tryz.prog):zTe W.heap/\zYj W.heap:=by
 have h:laidMet Tryz.prog Rows.planMakesRow.laid W:=h
 obtain⟨ps,hv,_⟩:=h
 refine⟨⟨?_,?_,zAle ho⟩,⟨?_,zAle ho⟩⟩
 ·exact zXh (t:=zFh) (e:=zZK) (n:=8) zAih (by kernel_rfl) (by kernel_rfl) (by kernel_rfl) (by kernel_rfl) (by kernel_rfl) hv (by repeat (first|exact List.Mem.head _|refine List.Mem.tail _ ?_))
 ·exact zXh (t:=zHX) (e:=zZK) (n:=64) zAii (by kernel_rfl) (by kernel_rfl) (by kernel_rfl) (by kernel_rfl) (by kernel_rfl) hv (by repeat (first|exact List.Mem.head _|refine List.Mem.tail _ ?_))
 ·exact zXh (t:=zS7) (e:=zZL) (n:=20) zAcV (by kernel_rfl) (by kernel_rfl) (by kernel_rfl) (by kernel_rfl) (by kernel_rfl) hv (by repeat (first|exact List.Mem.head _|refine List.Mem.tail _ ?_))
def flat:DataW Unit->List Value
 | .agg l=>l.map fun
  | .lit (.int k n) => .int k n
  | _ => .bool false
 | _=>[]
def zAlJ:DataW Unit->List Value
 | .agg l=>l.flatMap flat
 | _=>[]
def lay (h:Array Obj)(g:Nat)(cs:List Value):Array Obj:=h.modify g fun
 | .cells _ t fr => .cells cs.toArray t fr
 | o=>o
theorem zAij {n:Int}(h:(Lit.int .i64 n).wf=true) : -9223372036854775808<=n/\n<=9223372036854775807:=by
 simp only[Lit.wf,IntKind.min,IntKind.max,IntKind.signed,IntKind.bits]at h
 simp at h
 omega
def zAlK {H:Type}(zs:List (List UInt8)):DataW H := .agg (zs.map λl => .lit (.string l))
theorem zWn {H:Type}{enc:TypeId×Value->H}{P:Program}{w:World}{base:Nat}{sp:Nat->Bool}{held:Bool}{fuel:Nat}{t e:TypeId}{n:Nat}{cs:List Value}{zs:List (List UInt8)}{p:List MemPlace}
  (ht:P.underlying t=some (.array n e)) (he:P.underlying e=some .string) (hce:P.cellsOf e=1) (hct:P.cellsOf t=n)
  (h:DataW.trod enc P w base sp held fuel t cs=some (zAlK zs,p)):cs=zs.map str:=by
 cases fuel with
 | zero=>simp[DataW.trod]at h
 | succ fuel =>
  simp only[DataW.trod,ht,hce,hct,zCv]at h
  split at h
  ·rename_i hl
   obtain⟨xs,hm,hx⟩:=zBF.1 h
   have hxs:xs.map (·.1)=zs.map λz=>(DataW.lit (.string z):DataW H):=by
    have:=congrArg Prod.fst hx
    simpa [zAlK] using this
   have hxl:xs.length=n:=by simpa using Lib.mapM_length hm
   have hzl:zs.length=n:=by
    have:=congrArg List.length hxs
    simp at this
    omega
   apply zCS
   intro i
   by_cases hi:i<n
   ·obtain⟨b,hb,hf⟩:=Lib.mapM_at hm i i (by simp[hi])
    obtain⟨s,hc,rfl,_⟩:=DataW.trod_string he hf
    have h1:cs[i]? = some (.string s):=by
     have:=congrArg (·[0]?) hc
     simpa [zCn,zC4] using this
    have h2:(xs.map (·.1))[i]? = some (DataW.lit (.string s.data.toList):DataW H):=by simp[hb]
    rw[hxs]at h2
    simp only[zAr,zBF,DataW.lit.injEq,Lit.string.injEq]at h2
    obtain⟨z',hz',rfl⟩:=h2
    rw[zAr,hz',h1]
    obtain⟨a⟩:=s
    simp
   ·rw[zDf (by omega),zDf (by simp;omega)]
  ·cases h
theorem zAab {P:Program}{w:World}{name:String}{g:Nat}{t:TypeId}{dd:DataW Unit}(hg:P.globalNamed name=some g)(hty:(P.globals[g]?).map (·.type)=some t) :
  ∀ {l:List (String×DataW Unit)} {ps:List MemPlace},DataW.LaidVars P w l ps->(name,dd)∈l->∃ cs T f fuel p,w.heap[g]? = some (.cells cs T f)/\DataW.trod (λ_=>()) P w 0 (λ_=>true) false fuel t cs.toList=some (dd,p)
 | [],_,_,hm=>by cases hm
 | (nm,d)::r,ps,h,hm=>by
  obtain⟨g',t',cs,fuel,p,q,hg',ht',hvar,hd,hrest,_⟩:=h
  rcases zAq.1 hm with he'|hm
  ·cases he'
   obtain rfl:=zAL (hg.symm.trans hg')
   obtain rfl:=zAL (hty.symm.trans ht')
   unfold World.var? at hvar
   rw[hg,zAZ]at hvar
   split at hvar
   ·rename_i cs' T f hb
    cases zAL hvar
    exact⟨_,T,f,fuel,p,hb,hd⟩
   ·cases hvar
  ·exact zAab hg hty hrest hm
theorem zAac {P:Program}{w:World}{t:TypeId}{ms:Array (String×TypeId)}{cs:List Value}{fuel:Nat}{nm:String}{d:DataW Unit}{p:List MemPlace}(ht:P.underlying t=some (.interface ms))(h:DataW.trod (λ_=>()) P w 0 (λ_=>true) false fuel t cs=some (.iface nm d,p)) :
  ∃ T x,cs=[.iface T x]:=by
 cases fuel with
 | zero=>simp[DataW.trod]at h
 | succ fuel =>
  unfold DataW.trod at h
  rw[ht]at h
  split at h<;>first
   | (rename_i hq;cases hq;done)
   | (cases h;done)
   | exact⟨_,_,rfl⟩
theorem zYT:prg.globalNamed "strconv.ErrSyntax" = some zDu:=by kernel_rfl
theorem zAbc:prg.globalNamed "strconv.ErrRange" = some zDD:=by kernel_rfl
theorem zAlL:∃ t ms,(prg.globals[zDu]?).map (·.type)=some t/\(prg.globals[zDD]?).map (·.type)=some t/\prg.underlying t=some (.interface ms):=by
 have h:(match (prg.globals[zDu]?).map (·.type),(prg.globals[zDD]?).map (·.type) with
  | some t,some t'=>Nat.beq t t'&&(match prg.underlying t with|some (.interface _)=>true|_=>false)
  | _,_=>false)=true:=by kernel_rfl
 split at h
 ·rename_i t t' h1 h2
  simp only[zAk]at h
  obtain⟨h3,h4⟩:=h
  have e:=zA4 h3
  subst e
  split at h4
  ·rename_i ms hu
   exact⟨t,ms,h1,h2,hu⟩
  ·cases h4
 ·cases h
theorem zAj7:zAbN zBI [(0,zBJ),(1,zAT)]=true:=by kernel_rfl
theorem zYU:prg.cellsOf zBI=5:=by kernel_rfl
theorem zAcW {w:World}{d:Nat}{cs:List Value}(h:Shp prg w d zBI cs):∃ x:zQ5,x.wf/\cs=zEC x:=by
 obtain⟨d',hl,hfl⟩:=zNL zAj7 h
 rw[zYU]at hl
 have h0:=hfl 0 0 zBJ rfl
 have h1:=hfl 1 1 zAT rfl
 rw[zOy]at h0;rw[zAcT]at h1
 obtain⟨s,hs,hsl⟩:=zSA zOY h0
 obtain⟨n,hsn,hnl⟩:=str_of hsl
 obtain⟨v,hv,hvc⟩:=zAgI h1
 refine⟨⟨n,v⟩,⟨hv,hnl⟩,?_⟩
 have e1:cs=(cs.drop 0).take 1++(cs.drop 1).take 4:=by
  rw[zAp (l:=cs.drop 1) (by simp;omega),zCe]
  exact(zBx 1 cs).symm
 rw[e1,hs,hvc,hsn];rfl
theorem zAlM:prg.globalNamed "syngraph/version.ops" = some zEp:=by kernel_rfl
theorem zAlN:∃ t,(prg.globals[zEp]?).map (·.type)=some t/\prg.underlying t=some (.array 8 zBJ)/\prg.cellsOf t=8:=⟨zYB,by kernel_rfl,by kernel_rfl,by kernel_rfl⟩
def zAlO:DataW Unit->List Value
 | .agg l=>l.map fun
  | .lit (.string s) => .string ⟨s.toArray⟩
  | _ => .bool false
 | _=>[]
def zAbd (h:Array Obj):Array Obj :=
 ((lay (lay (lay (lay (lay (lay (lay (lay h zNT (flat Rows.laid_math_bits_deBruijn32tab)) zNU (flat Rows.laid_math_bits_deBruijn64tab)) zDT (flat Rows.laid_internal_strconv_uint64pow10)) zMO (zAlJ Rows.laid_unicode_utf8_acceptRanges)) zQL (flat Rows.laid_unicode_utf8_first))
  zEp (zAlO Rows.laid_syngraph_version_ops))
  zDD [.iface zKx (.pointer (some ⟨h.size,0,none⟩))])
  zDu [.iface zKx (.pointer (some ⟨h.size+1,0,none⟩))]).push
  (.cells #[.string ⟨#[118,97,108,117,101,32,111,117,116,32,111,102,32,114,97,110,103,101]⟩] zL5 (0,0))).push
  (.cells #[.string ⟨#[105,110,118,97,108,105,100,32,115,121,110,116,97,120]⟩] zL5 (0,0))
end Go.Proofs.YticdfkoncnnmmaaGreatDoor.Came
