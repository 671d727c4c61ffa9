import Derived.Test.YticdfkoncnnmmaaGreatDoorGI
import Derived.Test.YticdfkoncnnmmaaGreatDoorGU
import Derived.Test.YticdfkoncnnmmaaGreatDoorGO
import Derived.Test.YticdfkoncnnmmaaGreatDoorGE
import Derived.Test.YticdfkoncnnmmaaGreatDoorCards
import Derived.Test.YticdfkoncnnmmaaGreatDoorTie
import Derived.WalkKit
import Derived.ProofKit
import Derived.OpenShut
import Derived.Below
import Derived.Deep.DeepHandedRow
import Derived.Lib.LaidTab
set_option linter.unusedSimpArgs false
set_option linter.unusedVariables false
set_option maxRecDepth 100000
namespace Go.Proofs.YticdfkoncnnmmaaGreatDoor
open Go.X Go.X.Diff
theorem At.mid {h:zAx}{q n o:Nat}{A B C B':List Value}(a:At h q (A++B++C))(ho:A.length=o)(hB:B.length=n)(hB':B'.length=n)(h1:∀ c∈B',c.oneCell'=true) :
  ∃ h',stN n h (Ptr q o) (.agg B'.toArray)=some h'/\At h' q (A++B'++C)/\Keep (· = q) h h':=by
 obtain⟨T,a⟩:=a
 have:=zPF (n:=n) (o:=o) (A:=A) (B:=B) (C:=C) (B':=B') a ho.symm hB.symm hB' (zVw h1)
 exact⟨_,this,⟨T,zBm a⟩,Keep.set rfl⟩
theorem bcells_one {l:List UInt8}:∀ c∈zBs l,c.oneCell'=true:=by
 intro c hc
 simp only[zBs,zAo]at hc
 obtain⟨x,_,rfl⟩:=hc;rfl
structure zAns (a:zAgP):Prop where
 bef:∀ x∈a.bef,x.wf
 aft:∀ x∈a.aft,x.wf
 r:a.r.length=32
theorem Items.bound {P:zA1}{H:zAx}{v:Value}{xs:List Item}(h:Items P H v xs):Items (λb=>P b/\b<H.size) H v xs:=by
 obtain⟨⟨hex,hel,hone⟩,hw⟩:=h
 obtain⟨a,c,hve,hc,hx⟩:=hex
 exact⟨⟨⟨a,c,hve,hc,hx.imp id λ⟨b,o,e,hb,hpt⟩=>⟨b,o,e,⟨hb,hpt.lt⟩,hpt⟩⟩,hel,hone⟩,hw⟩
def zAin (H:zAx)(v:Value)(l:List UInt8):Prop:=Bs H v l/\∃ a c,v = .slice a l.length c
theorem zAin.keep {H H':zAx}{v:Value}{l:List UInt8}(h:zAin H v l)(k:Keep zAK H H'):zAin H' v l:=⟨h.1.keep k λ_ _=>id,h.2⟩
theorem zAin.b2s {H:zAx}{v:Value}{l:List UInt8}(h:zAin H v l):Go.X.b2s H v=some (str l):=by
 obtain⟨a,c,rfl⟩:=h.2
 exact h.1.b2s λs e=>by cases e
theorem zAin.len {H:zAx}{v:Value}{l:List UInt8}(h:zAin H v l):lenV v=some (.int .i64 l.length):=by
 obtain⟨a,c,rfl⟩:=h.2;rfl
theorem _root_.Go.X.Buf.bound {F:zA1}{H:zAx}{v:Value}{l:List UInt8}(h:Buf F H v l):Buf (λb=>F b/\b<H.size) H v l:=by
 rcases h with h|⟨b,o,c,cs,T,f,e,hf,hc,hb,hr⟩
 ·exact .inl h
 ·exact .inr ⟨b,o,c,cs,T,f,e,⟨hf,lt_of hb⟩,hc,hb,hr⟩
theorem Items.slice {P:zA1}{H:zAx}{v:Value}{xs:List Item}(h:Items P H v xs):∃ a c,v = .slice a xs.length c:=by
 obtain⟨⟨⟨a,c,rfl,_⟩,_⟩,_⟩:=h;exact⟨a,c,by simp⟩
end Go.Proofs.YticdfkoncnnmmaaGreatDoor
namespace Go.Proofs.YticdfkoncnnmmaaGreatDoor.Came
open Go.X
theorem own:ownKnob Tryz.prog.godebug=none:=by kernel_rfl
theorem zY2:laidOutB Tryz.prog=true:=by kernel_rfl
theorem zAkh:Tryz.prog.underlying 4=some .bool:=by kernel_rfl
noncomputable def zAfu (t:TypeId)(l:List (Nat×TypeId)):Bool:=match prg.underlying t with
 | some (.struct fs)=>fs.toList.map (λf=>(f.offset,f.type)) == l
 | _=>false
theorem zOP {w:World}{d:Nat}{t:TypeId}{l:List (Nat×TypeId)}{cs:List Value}(hl:zAfu t l=true)(h:Shp prg w d t cs):∃ d',cs.length=prg.cellsOf t/\∀ (i o:Nat) (ty:TypeId),l[i]? = some (o,ty)->Shp prg w d' ty ((cs.drop o).take (prg.cellsOf ty)):=by
 unfold zAfu at hl
 split at hl
 ·rename_i fs hu
  obtain⟨d',h1,h2⟩:=zAba hu h
  refine⟨d',h1,λi o ty hi=>?_⟩
  have e:=eq_of_beq hl
  rw[<- e,zAq]at hi
  obtain⟨f,hf,he⟩:=zBF.1 hi
  cases he
  exact h2 i f (by simpa using hf)
 ·cases hl
theorem zY3:prg.underlying zF4=some (.slice zCh):=by kernel_rfl
theorem zAlZ:prg.underlying zIC=some (.int .i64):=by kernel_rfl
theorem zOQ:prg.underlying zBJ=some .string:=by kernel_rfl
theorem zAgU:∃ e,prg.underlying zB5=some (.array 32 e)/\prg.underlying e=some (.int .u8)/\prg.cellsOf e=1:=⟨zCl,by kernel_rfl,by kernel_rfl,by kernel_rfl⟩
theorem zAnt:∃ t e,(prg.underlying zAO).isSome=true/\zAfu zAO [(0,t),(3,zBJ)]=true/\prg.underlying t=some (.array 3 e)/\prg.underlying e=some (.int .i64)/\prg.cellsOf e=1/\prg.cellsOf t=3:=⟨zAeZ,zIC,by kernel_rfl,by kernel_rfl,by kernel_rfl,by kernel_rfl,by kernel_rfl,by kernel_rfl⟩
theorem zAki:zAfu zCh [(0,zBJ),(1,zAO),(5,zB5)]=true:=by kernel_rfl
theorem zM4:prg.cellsOf zBJ=1:=by kernel_rfl
theorem zAal:prg.cellsOf zAO=4:=by kernel_rfl
theorem zWA:prg.cellsOf zB5=32:=by kernel_rfl
theorem zAc0:prg.cellsOf zCh=37:=by kernel_rfl
theorem str_of {s:ByteArray}(h:s.size<=maxLen):∃ l:List UInt8,Value.string s=str l/\l.length<=9223372036854775807:=⟨s.data.toList,by cases s;rfl,by
 have:s.data.toList.length=s.size:=by cases s;rfl
 rw[this];exact h⟩
theorem zAc1 {w:World}{d:Nat}{cs:List Value}(h:Shp prg w d zAO cs):∃ v:Ver,v.wf/\cs=zEm v:=by
 obtain⟨t,e,_,hf,ha,he,hc,hn⟩:=zAnt
 obtain⟨d',hl,hfl⟩:=zOP hf h
 rw[zAal]at hl
 have h0:=hfl 0 0 t rfl
 have h1:=hfl 1 3 zBJ rfl
 rw[hn]at h0;rw[zM4]at h1
 obtain⟨p,hp,hpc,_⟩:=zWc ha he hc hn h0
 obtain⟨s,hs,hsl⟩:=zSF zOQ h1
 obtain⟨l,hsl',hll⟩:=str_of hsl
 refine⟨⟨p,l⟩,⟨hp,hll⟩,?_⟩
 have e1:cs=cs.take 3++cs.drop 3:=(zBl 3 cs).symm
 rw[e1]
 rw[zB4]at hpc
 rw[zAr (by simp;omega)]at hs
 rw[hpc,hs,hsl'];rfl
theorem zAio {w:World}{d:Nat}{cs:List Value}(h:Shp prg w d zCh cs):∃ x:Item,x.wf/\cs=zFi x:=by
 obtain⟨d',hl,hfl⟩:=zOP zAki h
 rw[zAc0]at hl
 have h0:=hfl 0 0 zBJ rfl
 have h1:=hfl 1 1 zAO rfl
 have h2:=hfl 2 5 zB5 rfl
 rw[zM4]at h0;rw[zAal]at h1;rw[zWA]at h2
 obtain⟨s,hs,hsl⟩:=zSF zOQ h0
 obtain⟨n,hsn,hnl⟩:=str_of hsl
 obtain⟨v,hv,hvc⟩:=zAc1 h1
 obtain⟨e,he,hb,hc⟩:=zAgU
 obtain⟨l,hll,hlc,hlw⟩:=zWc he hb hc zWA h2
 obtain⟨r,hr,hrc⟩:=zVm hlw
 refine⟨⟨n,v,r⟩,⟨hv,hr.trans hll,hnl⟩,?_⟩
 have e1:cs=(cs.drop 0).take 1++((cs.drop 1).take 4++(cs.drop 5).take 32):=by
  rw[zAr (l:=cs.drop 5) (by simp;omega),zB4]
  have a1:(cs.drop 1).take 4++cs.drop 5=cs.drop 1:=by
   have:=zBl 4 (cs.drop 1)
   rwa [zCy]at this
  rw[a1];exact(zBl 1 cs).symm
 rw[e1,hs,hvc,hlc,hrc,hsn];rfl
theorem zAip {q:List (List Value)}(h:∀ x∈q,∃ y:Item,y.wf/\x=zFi y):∃ ys:List Item,q=ys.map zFi/\∀ y∈ys,y.wf:=by
 induction q with
 | nil=>exact⟨[],rfl,λy h=>by cases h⟩
 | cons x q ih =>
  obtain⟨ys,hy,hw⟩:=ih λx hx=>h x (by simp[hx])
  obtain⟨y,yw,rfl⟩:=h x (by simp)
  exact⟨y::ys,by rw[hy];rfl,λz hz=>by
   rcases zAs.1 hz with rfl|hz
   ·exact yw
   ·exact hw z hz⟩
theorem zAfv {w:World}{d:Nat}{v:Value}(h:Shp prg w d zF4 [v]):∃ xs:List Item,xs.length<=9223372036854775807/\Items (· < w.heap.size) w.heap v xs:=by
 cases d with
 | zero=>exact h.elim
 | succ d =>
  simp only[Shp,zY3]at h
  rcases h with h|⟨a,len,cap,hv,hle,hcap,hel⟩
  ·obtain rfl:v = .slice none 0 0:=by simpa using h
   exact⟨[],by simp,SlE.nil,λx h=>by cases h⟩
  ·obtain rfl:v = .slice (some a) len cap:=by simpa using hv
   rw[zAc0]at hel
   obtain⟨q,hq,hs,hqi⟩:=zJl (n:=37) (q:=λcs=>∃ y:Item,y.wf/\cs=zFi y) (by omega) hle (λcs ⟨y,_,e⟩ c hc=>by subst e;exact zXC c hc) λi hi=>by
    obtain⟨cs',h1,h2⟩:=hel i hi
    exact⟨cs',h1,zAio h2⟩
   obtain⟨ys,rfl,hw⟩:=zAip hqi
   refine⟨ys,?_,hs,hw⟩
   rw[zAd]at hq
   have:maxLen=9223372036854775807:=rfl
   omega
theorem zAiq:prg.globalNamed "syngraph/sha.begin" = some zMF:=by kernel_rfl
theorem zAir:prg.globalNamed "syngraph/sha.table" = some zI7:=by kernel_rfl
theorem zAc2:prg.globalNamed "internal/strconv.uint64pow10" = some zDW:=by kernel_rfl
theorem zAl0:(begin Tryz.prog (λ_ _=>0) default).world.heap.size > NG/\Tryz.prog.globals.size=NG:=⟨of_decide_eq_true (by kernel_rfl),by kernel_rfl⟩
theorem zAlu {W:World}(ho:W.ShapedOpen Tryz.prog):NG<=W.heap.size:=by
 obtain⟨h1,h2⟩:=zAl0
 obtain⟨o,_,ho,_⟩:=ho.2 NG (by rw[h2];exact zAh _) h1
 exact Nat.le_of_lt (Go.X.lt_of ho)
theorem tables {W:World}(h:laidMetH Tryz.prog Rows.planMakesRow.laid W)(ho:W.ShapedOpen Tryz.prog):zRs W.heap/\zXF W.heap:=by
 have h:laidMet Tryz.prog Rows.planMakesRow.laid W:=h
 obtain⟨ps,hv,_⟩:=h
 refine⟨⟨?_,?_,zAlu ho⟩,⟨?_,zAlu ho⟩⟩
 ·exact zXw (t:=zFe) (e:=zZT) (n:=8) zAiq (by kernel_rfl) (by kernel_rfl) (by kernel_rfl) (by kernel_rfl) (by kernel_rfl) hv (by repeat (first|exact List.Mem.head _|refine List.Mem.tail _ ?_))
 ·exact zXw (t:=zHW) (e:=zZT) (n:=64) zAir (by kernel_rfl) (by kernel_rfl) (by kernel_rfl) (by kernel_rfl) (by kernel_rfl) hv (by repeat (first|exact List.Mem.head _|refine List.Mem.tail _ ?_))
 ·exact zXw (t:=zTe) (e:=zZU) (n:=20) zAc2 (by kernel_rfl) (by kernel_rfl) (by kernel_rfl) (by kernel_rfl) (by kernel_rfl) hv (by repeat (first|exact List.Mem.head _|refine List.Mem.tail _ ?_))
def flat:DataW Unit->List Value
 | .agg l=>l.map fun
  | .lit (.int k n) => .int k n
  | _ => .bool false
 | _=>[]
def zAl1:DataW Unit->List Value
 | .agg l=>l.flatMap flat
 | _=>[]
def lay (h:Array Obj)(g:Nat)(cs:List Value):Array Obj:=h.modify g fun
 | .cells _ t fr => .cells cs.toArray t fr
 | o=>o
theorem zAis {n:Int}(h:(Lit.int .i64 n).wf=true) : -9223372036854775808<=n/\n<=9223372036854775807:=by
 simp only[Lit.wf,IntKind.min,IntKind.max,IntKind.signed,IntKind.bits]at h
 simp at h
 omega
def zAl2 {H:Type}(zs:List (List UInt8)):DataW H := .agg (zs.map λl => .lit (.string l))
theorem zWB {H:Type}{enc:TypeId×Value->H}{P:Program}{w:World}{base:Nat}{sp:Nat->Bool}{held:Bool}{fuel:Nat}{t e:TypeId}{n:Nat}{cs:List Value}{zs:List (List UInt8)}{p:List MemPlace}
  (ht:P.underlying t=some (.array n e)) (he:P.underlying e=some .string) (hce:P.cellsOf e=1) (hct:P.cellsOf t=n)
  (h:DataW.trod enc P w base sp held fuel t cs=some (zAl2 zs,p)):cs=zs.map str:=by
 cases fuel with
 | zero=>simp[DataW.trod]at h
 | succ fuel =>
  simp only[DataW.trod,ht,hce,hct,zCB]at h
  split at h
  ·rename_i hl
   obtain⟨xs,hm,hx⟩:=zBF.1 h
   have hxs:xs.map (·.1)=zs.map λz=>(DataW.lit (.string z):DataW H):=by
    have:=congrArg Prod.fst hx
    simpa [zAl2] using this
   have hxl:xs.length=n:=by simpa using Lib.mapM_length hm
   have hzl:zs.length=n:=by
    have:=congrArg List.length hxs
    simp at this
    omega
   apply zCT
   intro i
   by_cases hi:i<n
   ·obtain⟨b,hb,hf⟩:=Lib.mapM_at hm i i (by simp[hi])
    obtain⟨s,hc,rfl,_⟩:=DataW.trod_string he hf
    have h1:cs[i]? = some (.string s):=by
     have:=congrArg (·[0]?) hc
     simpa [zCr,zC7] using this
    have h2:(xs.map (·.1))[i]? = some (DataW.lit (.string s.data.toList):DataW H):=by simp[hb]
    rw[hxs]at h2
    simp only[zAq,zBF,DataW.lit.injEq,Lit.string.injEq]at h2
    obtain⟨z',hz',rfl⟩:=h2
    rw[zAq,hz',h1]
    obtain⟨a⟩:=s
    simp
   ·rw[zDj (by omega),zDj (by simp;omega)]
  ·cases h
theorem zAam {P:Program}{w:World}{name:String}{g:Nat}{t:TypeId}{dd:DataW Unit}(hg:P.globalNamed name=some g)(hty:(P.globals[g]?).map (·.type)=some t) :
  ∀ {l:List (String×DataW Unit)} {ps:List MemPlace},DataW.LaidVars P w l ps->(name,dd)∈l->∃ cs T f fuel p,w.heap[g]? = some (.cells cs T f)/\DataW.trod (λ_=>()) P w 0 (λ_=>true) false fuel t cs.toList=some (dd,p)
 | [],_,_,hm=>by cases hm
 | (nm,d)::r,ps,h,hm=>by
  obtain⟨g',t',cs,fuel,p,q,hg',ht',hvar,hd,hrest,_⟩:=h
  rcases zAs.1 hm with he'|hm
  ·cases he'
   obtain rfl:=zAN (hg.symm.trans hg')
   obtain rfl:=zAN (hty.symm.trans ht')
   unfold World.var? at hvar
   rw[hg,zAZ]at hvar
   split at hvar
   ·rename_i cs' T f hb
    cases zAN hvar
    exact⟨_,T,f,fuel,p,hb,hd⟩
   ·cases hvar
  ·exact zAam hg hty hrest hm
theorem zAan {P:Program}{w:World}{t:TypeId}{ms:Array (String×TypeId)}{cs:List Value}{fuel:Nat}{nm:String}{d:DataW Unit}{p:List MemPlace}(ht:P.underlying t=some (.interface ms))(h:DataW.trod (λ_=>()) P w 0 (λ_=>true) false fuel t cs=some (.iface nm d,p)) :
  ∃ T x,cs=[.iface T x]:=by
 cases fuel with
 | zero=>simp[DataW.trod]at h
 | succ fuel =>
  unfold DataW.trod at h
  rw[ht]at h
  split at h<;>first
   | (rename_i hq;cases hq;done)
   | (cases h;done)
   | exact⟨_,_,rfl⟩
theorem zY4:prg.globalNamed "strconv.ErrSyntax" = some zDy:=by kernel_rfl
theorem zAbn:prg.globalNamed "strconv.ErrRange" = some zDG:=by kernel_rfl
theorem zAl3:∃ t ms,(prg.globals[zDy]?).map (·.type)=some t/\(prg.globals[zDG]?).map (·.type)=some t/\prg.underlying t=some (.interface ms):=by
 have h:(match (prg.globals[zDy]?).map (·.type),(prg.globals[zDG]?).map (·.type) with
  | some t,some t'=>Nat.beq t t'&&(match prg.underlying t with|some (.interface _)=>true|_=>false)
  | _,_=>false)=true:=by kernel_rfl
 split at h
 ·rename_i t t' h1 h2
  simp only[zAk]at h
  obtain⟨h3,h4⟩:=h
  have e:=zA3 h3
  subst e
  split at h4
  ·rename_i ms hu
   exact⟨t,ms,h1,h2,hu⟩
  ·cases h4
 ·cases h
theorem zAkj:zAfu zBZ [(0,zBJ),(1,zAO)]=true:=by kernel_rfl
theorem zAc3:prg.cellsOf zBZ=5:=by kernel_rfl
theorem zAit {w:World}{d:Nat}{cs:List Value}(h:Shp prg w d zBZ cs):∃ x:zTn,x.wf/\cs=zFC x:=by
 obtain⟨d',hl,hfl⟩:=zOP zAkj h
 rw[zAc3]at hl
 have h0:=hfl 0 0 zBJ rfl
 have h1:=hfl 1 1 zAO rfl
 rw[zM4]at h0;rw[zAal]at h1
 obtain⟨s,hs,hsl⟩:=zSF zOQ h0
 obtain⟨n,hsn,hnl⟩:=str_of hsl
 obtain⟨v,hv,hvc⟩:=zAc1 h1
 refine⟨⟨n,v⟩,⟨hv,hnl⟩,?_⟩
 have e1:cs=(cs.drop 0).take 1++(cs.drop 1).take 4:=by
  rw[zAr (l:=cs.drop 1) (by simp;omega),zB4]
  exact(zBl 1 cs).symm
 rw[e1,hs,hvc,hsn];rfl
theorem zAl4:prg.globalNamed "syngraph/version.ops" = some zEu:=by kernel_rfl
theorem zAl5:∃ t,(prg.globals[zEu]?).map (·.type)=some t/\prg.underlying t=some (.array 8 zBJ)/\prg.cellsOf t=8:=⟨zYK,by kernel_rfl,by kernel_rfl,by kernel_rfl⟩
def zAl6:DataW Unit->List Value
 | .agg l=>l.map fun
  | .lit (.string s) => .string ⟨s.toArray⟩
  | _ => .bool false
 | _=>[]
def zAbo (h:Array Obj):Array Obj :=
 ((lay (lay (lay (lay (lay (lay (lay (lay h zNI (flat Rows.laid_math_bits_deBruijn32tab)) zNJ (flat Rows.laid_math_bits_deBruijn64tab)) zDW (flat Rows.laid_internal_strconv_uint64pow10)) zMG (zAl1 Rows.laid_unicode_utf8_acceptRanges)) zQA (flat Rows.laid_unicode_utf8_first))
  zEu (zAl6 Rows.laid_syngraph_version_ops))
  zDG [.iface zKr (.pointer (some ⟨h.size,0,none⟩))])
  zDy [.iface zKr (.pointer (some ⟨h.size+1,0,none⟩))]).push
  (.cells #[.string ⟨#[118,97,108,117,101,32,111,117,116,32,111,102,32,114,97,110,103,101]⟩] zL1 (0,0))).push
  (.cells #[.string ⟨#[105,110,118,97,108,105,100,32,115,121,110,116,97,120]⟩] zL1 (0,0))
end Go.Proofs.YticdfkoncnnmmaaGreatDoor.Came
