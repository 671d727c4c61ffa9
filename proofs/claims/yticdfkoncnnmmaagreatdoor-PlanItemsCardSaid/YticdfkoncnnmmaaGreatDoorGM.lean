import Derived.Test.YticdfkoncnnmmaaGreatDoorGJ
import Derived.Test.YticdfkoncnnmmaaGreatDoorGU
import Derived.Test.YticdfkoncnnmmaaGreatDoorGI
import Derived.Test.YticdfkoncnnmmaaGreatDoorGE
import Derived.Test.YticdfkoncnnmmaaGreatDoorCards
import Derived.Test.YticdfkoncnnmmaaGreatDoorTie
import Derived.WalkKit
import Derived.ProofKit
import Derived.OpenShut
import Derived.Below
import Derived.Deep.DeepHandedRow
import Derived.Lib.LaidTab
import Derived.Test.YticdfkoncnnmmaaGreatDoorG0
set_option linter.unusedSimpArgs false
set_option linter.unusedVariables false
set_option maxRecDepth 100000
namespace Go.Proofs.YticdfkoncnnmmaaGreatDoor
open Go.X Go.X.Diff
theorem Items.slice {P:Nat->Prop}{H:zAd}{v:Value}{xs:List Item}(h:Items P H v xs):∃ a c,v = .slice a xs.length c:=by
 obtain⟨⟨⟨a,c,rfl,_⟩,_⟩,_⟩:=h;exact⟨a,c,by simp⟩
end Go.Proofs.YticdfkoncnnmmaaGreatDoor
namespace Go.Proofs.YticdfkoncnnmmaaGreatDoor.Came
open Go.X
theorem own:ownKnob Tryz.prog.godebug=none:=by kernel_rfl
theorem zAdX:laidOutB Tryz.prog=true:=by kernel_rfl
theorem zAfK:Tryz.prog.underlying 4=some .bool:=by kernel_rfl
noncomputable def zAdY (t:TypeId)(l:List (Nat×TypeId)):Bool:=match prg.underlying t with
 | some (.struct fs)=>fs.toList.map (fun f=>(f.offset,f.type)) == l
 | _=>false
theorem zOO {w:World}{d:Nat}{t:TypeId}{l:List (Nat×TypeId)}{cs:List Value}(hl:zAdY t l=true)(h:Shp prg w d t cs):∃ d',cs.length=prg.cellsOf t/\∀ (i o:Nat) (ty:TypeId),l[i]? = some (o,ty)->Shp prg w d' ty ((cs.drop o).take (prg.cellsOf ty)):=by
 unfold zAdY at hl
 split at hl
 ·rename_i fs hu
  obtain⟨d',h1,h2⟩:=zW6 hu h
  refine⟨d',h1,fun i o ty hi=>?_⟩
  have e:=eq_of_beq hl
  rw[<- e,List.getElem?_map]at hi
  obtain⟨f,hf,he⟩:=Option.map_eq_some_iff.1 hi
  cases he
  exact h2 i f (by simpa using hf)
 ·cases hl
theorem zAhc:prg.underlying zGd=some (.int .i64):=by kernel_rfl
theorem zNl:prg.underlying zAz=some .string:=by kernel_rfl
theorem zAfL:∃ e,prg.underlying zAO=some (.array 32 e)/\prg.underlying e=some (.int .u8)/\prg.cellsOf e=1:=⟨zAS,by kernel_rfl,by kernel_rfl,by kernel_rfl⟩
theorem zAiB:∃ t e,(prg.underlying zAn).isSome=true/\zAdY zAn [(0,t),(3,zAz)]=true/\prg.underlying t=some (.array 3 e)/\prg.underlying e=some (.int .i64)/\prg.cellsOf e=1/\prg.cellsOf t=3:=⟨zAaT,zGd,by kernel_rfl,by kernel_rfl,by kernel_rfl,by kernel_rfl,by kernel_rfl,by kernel_rfl⟩
theorem zLv:prg.cellsOf zAz=1:=by kernel_rfl
theorem zYT:prg.cellsOf zAn=4:=by kernel_rfl
theorem zYU:prg.cellsOf zAO=32:=by kernel_rfl
theorem str_of {s:ByteArray}(h:s.size<=maxLen):∃ l:List UInt8,Value.string s=str l/\l.length<=9223372036854775807:=⟨s.data.toList,by cases s;rfl,by
 have:s.data.toList.length=s.size:=by cases s;rfl
 rw[this];exact h⟩
theorem zAcy {w:World}{d:Nat}{cs:List Value}(h:Shp prg w d zAn cs):∃ v:Ver,v.wf/\cs=zCt v:=by
 obtain⟨t,e,_,hf,ha,he,hc,hn⟩:=zAiB
 obtain⟨d',hl,hfl⟩:=zOO hf h
 rw[zYT]at hl
 have h0:=hfl 0 0 t rfl
 have h1:=hfl 1 3 zAz rfl
 rw[hn]at h0;rw[zLv]at h1
 obtain⟨p,hp,hpc,_⟩:=zVY ha he hc hn h0
 obtain⟨s,hs,hsl⟩:=zQI zNl h1
 obtain⟨l,hsl',hll⟩:=str_of hsl
 refine⟨⟨p,l⟩,⟨hp,hll⟩,?_⟩
 have e1:cs=cs.take 3++cs.drop 3:=(List.take_append_drop 3 cs).symm
 rw[e1]
 rw[List.drop_zero]at hpc
 rw[List.take_of_length_le (by simp;omega)]at hs
 rw[hpc,hs,hsl'];rfl
theorem zAdZ:prg.globalNamed "syngraph/sha.begin" = some zJR:=by kernel_rfl
theorem zAd0:prg.globalNamed "syngraph/sha.table" = some zGH:=by kernel_rfl
theorem zYV:prg.globalNamed "internal/strconv.uint64pow10" = some zBL:=by kernel_rfl
theorem zAhd:(begin Tryz.prog (fun _ _=>0) default).world.heap.size > NG/\Tryz.prog.globals.size=NG:=⟨of_decide_eq_true (by kernel_rfl),by kernel_rfl⟩
theorem zAhe {W:World}(ho:W.ShapedOpen Tryz.prog):NG<=W.heap.size:=by
 obtain⟨h1,h2⟩:=zAhd
 obtain⟨o,_,ho,_⟩:=ho.2 NG (by rw[h2];exact Nat.le_refl _) h1
 exact Nat.le_of_lt (Go.X.lt_of ho)
theorem tables {W:World}(h:laidMetH Tryz.prog Rows.planMakesRow.laid W)(ho:W.ShapedOpen Tryz.prog):zTg W.heap/\zTW W.heap:=by
 have h:laidMet Tryz.prog Rows.planMakesRow.laid W:=h
 obtain⟨ps,hv,_⟩:=h
 refine⟨⟨?_,?_,zAhe ho⟩,⟨?_,zAhe ho⟩⟩
 ·exact zTO (t:=zC0) (e:=zVT) (n:=8) zAdZ (by kernel_rfl) (by kernel_rfl) (by kernel_rfl) (by kernel_rfl) (by kernel_rfl) hv (by repeat (first | exact List.Mem.head _ | refine List.Mem.tail _ ?_))
 ·exact zTO (t:=zFz) (e:=zVT) (n:=64) zAd0 (by kernel_rfl) (by kernel_rfl) (by kernel_rfl) (by kernel_rfl) (by kernel_rfl) hv (by repeat (first | exact List.Mem.head _ | refine List.Mem.tail _ ?_))
 ·exact zTO (t:=zPL) (e:=zVU) (n:=20) zYV (by kernel_rfl) (by kernel_rfl) (by kernel_rfl) (by kernel_rfl) (by kernel_rfl) hv (by repeat (first | exact List.Mem.head _ | refine List.Mem.tail _ ?_))
def flat:DataW Unit->List Value
 | .agg l=>l.map fun
  | .lit (.int k n) => .int k n
  | _ => .bool false
 | _=>[]
def zAhf:DataW Unit->List Value
 | .agg l=>l.flatMap flat
 | _=>[]
def lay (h:Array Obj)(g:Nat)(cs:List Value):Array Obj:=h.modify g fun
 | .cells _ t fr => .cells cs.toArray t fr
 | o=>o
theorem zAd1 {n:Int}(h:(Lit.int .i64 n).wf=true) : -9223372036854775808<=n/\n<=9223372036854775807:=by
 simp only[Lit.wf,IntKind.min,IntKind.max,IntKind.signed,IntKind.bits]at h
 simp at h
 omega
def zAhg {H:Type}(zs:List (List UInt8)):DataW H := .agg (zs.map fun l => .lit (.string l))
theorem zST {H:Type}{enc:TypeId×Value->H}{P:Program}{w:World}{base:Nat}{sp:Nat->Bool}{held:Bool}{fuel:Nat}{t e:TypeId}{n:Nat}{cs:List Value}{zs:List (List UInt8)}{p:List MemPlace}
  (ht:P.underlying t=some (.array n e)) (he:P.underlying e=some .string) (hce:P.cellsOf e=1) (hct:P.cellsOf t=n)
  (h:DataW.trod enc P w base sp held fuel t cs=some (zAhg zs,p)):cs=zs.map str:=by
 cases fuel with
 | zero=>simp[DataW.trod]at h
 | succ fuel =>
  simp only[DataW.trod,ht,hce,hct,Nat.mul_one]at h
  split at h
  ·rename_i hl
   obtain⟨xs,hm,hx⟩:=Option.map_eq_some_iff.1 h
   have hxs:xs.map (·.1)=zs.map fun z=>(DataW.lit (.string z):DataW H):=by
    have:=congrArg Prod.fst hx
    simpa [zAhg] using this
   have hxl:xs.length=n:=by simpa using Lib.mapM_length hm
   have hzl:zs.length=n:=by
    have:=congrArg List.length hxs
    simp at this
    omega
   apply List.ext_getElem?
   intro i
   by_cases hi:i<n
   ·obtain⟨b,hb,hf⟩:=Lib.mapM_at hm i i (by simp[hi])
    obtain⟨s,hc,rfl,_⟩:=DataW.trod_string he hf
    have h1:cs[i]? = some (.string s):=by
     have:=congrArg (·[0]?) hc
     simpa [List.getElem?_take,List.getElem?_drop] using this
    have h2:(xs.map (·.1))[i]? = some (DataW.lit (.string s.data.toList):DataW H):=by simp[hb]
    rw[hxs]at h2
    simp only[List.getElem?_map,Option.map_eq_some_iff,DataW.lit.injEq,Lit.string.injEq]at h2
    obtain⟨z',hz',rfl⟩:=h2
    rw[List.getElem?_map,hz',h1]
    obtain⟨a⟩:=s
    simp
   ·rw[List.getElem?_eq_none (by omega),List.getElem?_eq_none (by simp;omega)]
  ·cases h
theorem zWl {P:Program}{w:World}{name:String}{g:Nat}{t:TypeId}{dd:DataW Unit}(hg:P.globalNamed name=some g)(hty:(P.globals[g]?).map (·.type)=some t) :
  ∀ {l:List (String×DataW Unit)} {ps:List MemPlace},DataW.LaidVars P w l ps->(name,dd) ∈ l->∃ cs T f fuel p,w.heap[g]? = some (.cells cs T f)/\DataW.trod (fun _=>()) P w 0 (fun _=>true) false fuel t cs.toList=some (dd,p)
 | [],_,_,hm=>by cases hm
 | (nm,d) :: r,ps,h,hm=>by
  obtain⟨g',t',cs,fuel,p,q,hg',ht',hvar,hd,hrest,_⟩:=h
  rcases List.mem_cons.1 hm with he' | hm
  ·cases he'
   obtain rfl:=Option.some.inj (hg.symm.trans hg')
   obtain rfl:=Option.some.inj (hty.symm.trans ht')
   unfold World.var? at hvar
   rw[hg,Option.bind_some]at hvar
   split at hvar
   ·rename_i cs' T f hb
    cases Option.some.inj hvar
    exact⟨_,T,f,fuel,p,hb,hd⟩
   ·cases hvar
  ·exact zWl hg hty hrest hm
theorem zWm {P:Program}{w:World}{t:TypeId}{ms:Array (String×TypeId)}{cs:List Value}{fuel:Nat}{nm:String}{d:DataW Unit}{p:List MemPlace}(ht:P.underlying t=some (.interface ms))(h:DataW.trod (fun _=>()) P w 0 (fun _=>true) false fuel t cs=some (.iface nm d,p)) :
  ∃ T x,cs=[.iface T x]:=by
 cases fuel with
 | zero=>simp[DataW.trod]at h
 | succ fuel =>
  unfold DataW.trod at h
  rw[ht]at h
  split at h <;> first
   | (rename_i hq;cases hq;done)
   | (cases h;done)
   | exact⟨_,_,rfl⟩
theorem zVe:prg.globalNamed "strconv.ErrSyntax" = some zBq:=by kernel_rfl
theorem zXi:prg.globalNamed "strconv.ErrRange" = some zBw:=by kernel_rfl
theorem zAhh:∃ t ms,(prg.globals[zBq]?).map (·.type)=some t/\(prg.globals[zBw]?).map (·.type)=some t/\prg.underlying t=some (.interface ms):=by
 have h:(match (prg.globals[zBq]?).map (·.type),(prg.globals[zBw]?).map (·.type) with
  | some t,some t'=>Nat.beq t t' && (match prg.underlying t with | some (.interface _)=>true | _=>false)
  | _,_=>false)=true:=by kernel_rfl
 split at h
 ·rename_i t t' h1 h2
  simp only[Bool.and_eq_true]at h
  obtain⟨h3,h4⟩:=h
  have e:=Nat.eq_of_beq_eq_true h3
  subst e
  split at h4
  ·rename_i ms hu
   exact⟨t,ms,h1,h2,hu⟩
  ·cases h4
 ·cases h
theorem zAfM:zAdY zAJ [(0,zAz),(1,zAn)]=true:=by kernel_rfl
theorem zYW:prg.cellsOf zAJ=5:=by kernel_rfl
theorem zAd2 {w:World}{d:Nat}{cs:List Value}(h:Shp prg w d zAJ cs):∃ x:zPS,x.wf/\cs=zDl x:=by
 obtain⟨d',hl,hfl⟩:=zOO zAfM h
 rw[zYW]at hl
 have h0:=hfl 0 0 zAz rfl
 have h1:=hfl 1 1 zAn rfl
 rw[zLv]at h0;rw[zYT]at h1
 obtain⟨s,hs,hsl⟩:=zQI zNl h0
 obtain⟨n,hsn,hnl⟩:=str_of hsl
 obtain⟨v,hv,hvc⟩:=zAcy h1
 refine⟨⟨n,v⟩,⟨hv,hnl⟩,?_⟩
 have e1:cs=(cs.drop 0).take 1++(cs.drop 1).take 4:=by
  rw[List.take_of_length_le (l:=cs.drop 1) (by simp;omega),List.drop_zero]
  exact(List.take_append_drop 1 cs).symm
 rw[e1,hs,hvc,hsn];rfl
theorem zAhi:prg.globalNamed "syngraph/version.ops" = some zCj:=by kernel_rfl
theorem zAhj:∃ t,(prg.globals[zCj]?).map (·.type)=some t/\prg.underlying t=some (.array 8 zAz)/\prg.cellsOf t=8:=⟨zUV,by kernel_rfl,by kernel_rfl,by kernel_rfl⟩
def zAhk:DataW Unit->List Value
 | .agg l=>l.map fun
  | .lit (.string s) => .string ⟨s.toArray⟩
  | _ => .bool false
 | _=>[]
def zXj (h:Array Obj):Array Obj :=
 ((lay (lay (lay (lay (lay (lay (lay (lay h zKQ (flat Rows.laid_math_bits_deBruijn32tab)) zKR (flat Rows.laid_math_bits_deBruijn64tab)) zBL (flat Rows.laid_internal_strconv_uint64pow10)) zJS (zAhf Rows.laid_unicode_utf8_acceptRanges)) zNw (flat Rows.laid_unicode_utf8_first))
  zCj (zAhk Rows.laid_syngraph_version_ops))
  zBw [.iface zHT (.pointer (some ⟨h.size,0,none⟩))])
  zBq [.iface zHT (.pointer (some ⟨h.size+1,0,none⟩))]).push
  (.cells #[.string ⟨#[118,97,108,117,101,32,111,117,116,32,111,102,32,114,97,110,103,101]⟩] zJh (0,0))).push
  (.cells #[.string ⟨#[105,110,118,97,108,105,100,32,115,121,110,116,97,120]⟩] zJh (0,0))
end Go.Proofs.YticdfkoncnnmmaaGreatDoor.Came
