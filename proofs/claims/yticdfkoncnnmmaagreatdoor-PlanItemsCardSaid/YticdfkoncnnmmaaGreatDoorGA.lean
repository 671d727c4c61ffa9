import Derived.Calls
import Derived.Orders
import Derived.OrdersIn
import Derived.RangeFuncIn
import Derived.RangeFuncCalls
import Derived.RangeFuncLeaves
import Derived.Laws.CopyRow
import Derived.Laws.Rows
import Derived.Laws.MakeOwn
import Derived.Laws.StructEq
import Derived.Laws.Unary
import Derived.Laws.Slices
set_option linter.unusedSimpArgs false
set_option linter.unusedVariables false
namespace Go.X
abbrev zAd:=Array Obj
def zDL (H H':zAd):Prop:=∀ (i:Nat) (ds:Option (List Deferred)),H[i]? = some (Obj.deferred ds)->H'[i]? = some (Obj.deferred ds)
theorem zDL.rfl' {H:zAd}:zDL H H:=fun _ _ h=>h
theorem zDL.trans {a b c:zAd}(h:zDL a b)(k:zDL b c):zDL a c:=fun i ds hi=>k i ds (h i ds hi)
theorem zDL.push {H:zAd}{o:Obj}:zDL H (H.push o):=fun i ds h=>by
  have:=(Array.getElem?_eq_some_iff.1 h).1
  rw[Array.getElem?_push,if_neg (by omega)];exact h
theorem zDL.set {H:zAd}{b:Nat}{c c':Array Value}{T T':TypeId}{f f':Nat×Nat}(hb:H[b]? = some (.cells c T f)):zDL H (H.setIfInBounds b (.cells c' T' f')):=fun i ds h=>by
  rw[Array.getElem?_setIfInBounds]
  split
  · rename_i e;subst e;rw[hb]at h;cases h
  · exact h
structure zHd (w w':World):Prop where
  os:w'.os=w.os
  tape:w'.tape=w.tape
  output:w'.output=w.output
  solid:zDL w.heap w'.heap
theorem zHd.rfl' (w:World):zHd w w:=⟨rfl,rfl,rfl,zDL.rfl'⟩
theorem zHd.trans {a b c:World}(h:zHd a b)(k:zHd b c):zHd a c :=
  ⟨k.os.trans h.os,k.tape.trans h.tape,k.output.trans h.output,h.solid.trans k.solid⟩
def zAg (P:Program)(f:FuncId)(args:List Value)(H:zAd)(R:Value->zAd->Prop):Prop :=
  ∀ w:World,w.heap=H->Calls P f args.toArray w fun e w'=>∃ v,e = .returned v/\zHd w w'/\R v w'.heap
theorem zAg.mono {P:Program}{f:FuncId}{args:List Value}{H:zAd}{R R':Value->zAd->Prop}(h:zAg P f args H R)(k:∀ v h,R v h->R' v h):zAg P f args H R' :=
  fun w hw=>(h w hw).mono fun _ _ ⟨v,e,s,r⟩=>⟨v,e,s,k _ _ r⟩
def zQi (P:Program)(l:Nat)(args:List Value)(H:zAd)(R:Value->zAd->Prop):Prop :=
  ∀ w:World,w.heap=H->∃ f tmps assign body,(Instr.yield l args.toArray).run P w = .ok (.round l f tmps assign body) w /\
    RoundIn Fence.wide 0 P l f tmps assign body w fun e w'=>∃ v,e = .returned v/\zHd w w'/\R v w'.heap
theorem zQi.mono {P:Program}{l:Nat}{args:List Value}{H:zAd}{R R':Value->zAd->Prop}(h:zQi P l args H R)(k:∀ v h,R v h->R' v h):zQi P l args H R':=fun w hw =>
  let ⟨f,t,a,b,e,r⟩:=h w hw
  ⟨f,t,a,b,e,r.mono fun _ _ ⟨v,e,s,r⟩=>⟨v,e,s,k _ _ r⟩⟩
abbrev Env:=Nat->Value
def Env.put (e:Env)(d:Option Nat)(v:Value):Env :=
  match d with
  | some d=>fun i=>bif Nat.beq i d then v else e i
  | none=>e
def ev (e:Env):Operand->Value
  | .tmp t=>e t
  | .const v=>v
  | .global g => .pointer (some ⟨g,0,none⟩)
  | .func f => .func (.func f) #[] #[]
def Mpu (o:Option Value)(k:Value->Prop):Prop:=∃ v,o=some v/\k v
def Mwr (o:Option zAd)(k:zAd->Prop):Prop:=∃ h,o=some h/\k h
def zBH (H:zAd)(T:TypeId)(c:Option (Array Value))(k:Value->zAd->Prop):Prop :=
  ∃ cs,c=some cs/\k (.pointer (some ⟨H.size,0,none⟩)) (H.push (.cells cs T (0,0)))
def zAp (P:Program)(f:FuncId)(args:List Value)(H:zAd)(k:Value->zAd->Prop):Prop:=zAg P f args H k
def zMv (P:Program)(f:FuncId):Bool:=match P.funcs[f]? with
  | some fn=>fn.body.isSome && fn.name != "runtime.NumGoroutine"
  | none=>false
def zBF (P:Program)(fv:Value)(args:List Value)(H:zAd)(k:Value->zAd->Prop):Prop :=
  (∃ f fi ca,fv = .func (.func f) fi ca/\zMv P f=true/\zAg P f (fi.toList++args++ca.toList) H k) \/
  ∃ l fi ca,fv = .func (.yield l) fi ca/\zQi P l (fi.toList++args) H k
theorem zBF.mono {P:Program}{fv:Value}{args:List Value}{H:zAd}{R R':Value->zAd->Prop}(h:zBF P fv args H R)(k:∀ v h,R v h->R' v h):zBF P fv args H R':=by
  rcases h with ⟨f,fi,ca,e,b,h⟩ | ⟨l,fi,ca,e,h⟩
  · exact .inl ⟨f,fi,ca,e,b,h.mono k⟩
  · exact .inr ⟨l,fi,ca,e,h.mono k⟩
def zNt (P:Program)(s:Sem Value)(H:zAd)(k:Value->zAd->Prop):Prop :=
  ∀ w:World,w.heap=H->∃ v w',s.run P w = .ok v w'/\zHd w w'/\k v w'.heap
def Msu (P:Program)(s:Sem Unit)(H:zAd)(k:Value->zAd->Prop):Prop :=
  ∀ w:World,w.heap=H->∃ w',s.run P w = .ok () w'/\zHd w w'/\k undef w'.heap
def zXV (P:Program)(f:FuncId):Option (Array Value->Sem Value):=match P.funcs[f]? with
  | some fn=>bif fn.body.isNone && (fn.name != "runtime.NumGoroutine") && (Extern.findNext fn).isNone then Extern.find fn else none
  | none=>none
def xtV (P:Program)(f:FuncId)(args:Array Value):Sem Value:=match zXV P f with
  | some e=>e args
  | none=>stuck "no row"
def usd:Value->Option Value
  | .slice none _ _=>some (.pointer none)
  | .slice (some a) _ c=>if c≠0 then some (.pointer (some a)) else none
  | _=>none
def Ext (H H':zAd):Prop:=H.size<=H'.size/\∀ i,i<H.size->H'[i]? = H[i]?
def zAe5 (P:Program)(f:FuncId)(args:List Value)(H:zAd)(k:Value->zAd->Prop):Prop:=zAg P f args H fun v h=>Ext H h/\k v h
def Mif (c:Value)(want:Bool)(yes no:Prop):Prop:=(∃ b,c = .bool b/\(b=want->yes)/\(b=(!want)->no))\/((∀ b,c ≠ .bool b)/\no)
def Mcd (c:Value)(yes no:Prop):Prop:=∃ b,c = .bool b/\(b=true->yes)/\(b=false->no)
def zRq (P:Program)(o:Oper)(ρ:Operand->Value)(H:zAd)(k:Value->zAd->Prop):Prop :=
  ∀ w:World,w.heap=H->∃ n w',(execOp ρ o).run P w = .ok n w'/\zHd w w' /\
    ((∃ v,n = .value v/\k v w'.heap)\/(n = .skip/\k undef w'.heap))
def ld1 (H:zAd):Value->Option Value
  | .pointer (some ⟨b,o,none⟩)=>match H[b]? with
    | some (.cells c _ _)=>c[o]?
    | _=>none
  | _=>none
def ldN (n:Nat)(H:zAd):Value->Option Value
  | .pointer (some ⟨b,o,none⟩)=>match H[b]? with
    | some (.cells c _ _)=>if o+n<=c.size then some (.agg (c.extract o (o+n))) else none
    | _=>none
  | _=>none
def spl (c:Array Value)(o:Nat)(vs:Array Value):Array Value:=(c.toList.take o++vs.toList++c.toList.drop (o+vs.size)).toArray
def zRB (f:Nat×Nat)(o n:Nat):Bool:=decide (f.2<=o) || decide (o+n<=f.1) || decide (f.2<=f.1)
def stA (H:zAd)(b o:Nat)(vs:Array Value):Option zAd :=
  match H[b]? with
  | some (.cells c T f)=>if o+vs.size<=c.size/\zRB f o vs.size=true/\vs.all (·.oneCell')=true then some (H.setIfInBounds b (.cells (spl c o vs) T f)) else none
  | _=>none
def st1 (H:zAd)(p v:Value):Option zAd :=
  match p with
  | .pointer (some ⟨b,o,none⟩)=>match H[b]? with
    | some (.cells c T f)=>if o<c.size/\zRB f o 1=true/\v.oneCell'=true then some (H.setIfInBounds b (.cells (c.setIfInBounds o v) T f)) else none
    | _=>none
  | _=>none
def stN (n:Nat)(H:zAd)(p v:Value):Option zAd :=
  match p,v with
  | .pointer (some ⟨b,o,none⟩),.agg vs=>if vs.size=n then stA H b o vs else none
  | _,_=>none
def nck:Value->Option Value
  | .pointer (some a)=>some (.pointer (some a))
  | .func (.func f) a b=>some (.func (.func f) a b)
  | _=>none
def fld (off:Nat):Value->Option Value
  | .pointer (some ⟨b,o,none⟩)=>some (.pointer (some ⟨b,o+off,none⟩))
  | _=>none
def zAC:Value->Value->Value->Option Value
  | .bool c,a,b=>some (if c then a else b)
  | _,_,_=>none
def zSh (agg:Bool)(n off:Nat):Value->Option Value
  | .agg cs=>if agg then some (.agg (cs.extract off (off+n))) else cs[off]?
  | _=>none
def ixS (size:Nat):Value->Value->Option Value
  | .slice (some ⟨b,o,none⟩) len _,.int _ i=>if 0<=i/\i<len then some (.pointer (some ⟨b,o+i.toNat * size,none⟩)) else none
  | _,_=>none
def ixA (len size:Nat):Value->Value->Option Value
  | .pointer (some ⟨b,o,none⟩),.int _ i=>if 0<=i/\i<len then some (.pointer (some ⟨b,o+i.toNat * size,none⟩)) else none
  | _,_=>none
def ixT:Value->Value->Option Value
  | .string s,.int _ i=>if 0<=i then (s[i.toNat]?).map fun b => .int .u8 b.toNat else none
  | _,_=>none
def ixV (len:Nat)(agg:Bool)(size:Nat):Value->Value->Option Value
  | .agg cs,.int _ i=>if 0<=i/\i<len then (if agg then some (.agg (cs.extract (i.toNat * size) (i.toNat * size+size))) else cs[i.toNat * size]?) else none
  | _,_=>none
def zA9 (op:BinOp)(k:IntKind)(a b:Int):Option Value :=
  match op with
  | .add=>some (.int k (k.wrap (a+b)))
  | .sub=>some (.int k (k.wrap (a - b)))
  | .mul=>some (.int k (k.wrap (a * b)))
  | .quo=>if b=0 then none else some (.int k (k.wrap (a.tdiv b)))
  | .rem=>if b=0 then none else some (.int k (a.tmod b))
  | .and=>some (.int k (k.wrap (BitVec.ofInt k.bits a &&& BitVec.ofInt k.bits b).toNat))
  | .or=>some (.int k (k.wrap (BitVec.ofInt k.bits a ||| BitVec.ofInt k.bits b).toNat))
  | .xor=>some (.int k (k.wrap (BitVec.ofInt k.bits a ^^^ BitVec.ofInt k.bits b).toNat))
  | .andNot=>some (.int k (k.wrap (BitVec.ofInt k.bits a &&& ~~~BitVec.ofInt k.bits b).toNat))
  | .eql=>some (.bool (a == b))
  | .neq=>some (.bool (a != b))
  | .lss=>some (.bool (decide (a<b)))
  | .leq=>some (.bool (decide (a<=b)))
  | .gtr=>some (.bool (decide (a > b)))
  | .geq=>some (.bool (decide (a>=b)))
  | .shl=>if b<0 then none else some (.int k (k.wrap (a * 2 ^ (min b.toNat k.bits))))
  | .shr=>if b<0 then none else some (.int k (a.fdiv (2 ^ (min b.toNat k.bits))))
def zP4 (op:BinOp)(x y:ByteArray):Option Value :=
  match op with
  | .add=>if ((x.size+y.size:Nat):Int) > IntKind.i64.max then none else some (.string (x++y))
  | .eql=>some (.bool (x.toList == y.toList))
  | .neq=>some (.bool !(x.toList == y.toList))
  | .lss=>some (.bool (Op.bytesLess x.toList y.toList))
  | .leq=>some (.bool (Op.bytesLess x.toList y.toList || x.toList == y.toList))
  | .gtr=>some (.bool !(Op.bytesLess x.toList y.toList || x.toList == y.toList))
  | .geq=>some (.bool !(Op.bytesLess x.toList y.toList))
  | _=>none
def zK8:Nat->Value->Value->Option Bool
  | 0,.int k a,.int k' b=>if k=k' then some (a == b) else none
  | 1,.bool a,.bool b=>some (a == b)
  | 2,.string a,.string b=>some (a.toList == b.toList)
  | _,_,_=>none
def zA1:List Nat->List Value->List Value->Option Bool
  | [],[],[]=>some true
  | k :: ks,a :: as,b :: bs=>match zK8 k a b,zA1 ks as bs with
    | some x,some y=>some (x && y)
    | _,_=>none
  | _,_,_=>none
inductive EqK where
  | no | bool | ptr | slc | fn | flat (ks:List Nat)
  | ifc (f:TypeId->Bool) (lit:Bool)
def eqV:EqK->Value->Value->Option Bool
  | .bool,.bool a,.bool b=>some (a == b)
  | .ptr,.pointer none,.pointer b=>some b.isNone
  | .ptr,.pointer (some _),.pointer none=>some false
  | .ptr,.pointer (some a),.pointer (some b)=>if a=b then some true else none
  | .slc,.slice none _ _,.slice b _ _=>some b.isNone
  | .slc,.slice (some _) _ _,.slice none _ _=>some false
  | .fn,.nilFunc,.nilFunc=>some true
  | .fn,.nilFunc,.func _ _ _=>some false
  | .fn,.func _ _ _,.nilFunc=>some false
  | .flat ks,.agg xs,.agg ys=>zA1 ks xs.toList ys.toList
  | .ifc _ lit,.nilIface,.nilIface=>bif lit then some true else none
  | .ifc _ _,.nilIface,.iface _ _=>some false
  | .ifc _ _,.iface _ _,.nilIface=>some false
  | .ifc f _,.iface tx (.int k a),.iface ty (.int k' b)=>bif Nat.beq tx ty then (bif f tx then (if k=k' then some (a == b) else none) else none) else some false
  | .ifc _ _,.iface tx _,.iface ty _=>bif Nat.beq tx ty then none else some false
  | _,_,_=>none
def zAh (q:EqK)(op:BinOp)(x y:Value):Option Value :=
  match x,y with
  | .int k a,.int k' b=>if k=k' then zA9 op k a b else (match op with | .shl=>zA9 .shl k a b | .shr=>zA9 .shr k a b | _=>none)
  | .string a,.string b=>zP4 op a b
  | x,y=>match op with
    | .eql=>(eqV q x y).map .bool
    | .neq=>(eqV q x y).map fun b => .bool (!b)
    | _=>none
def unV (op:UnOp):Value->Option Value
  | .int k n=>match op with
    | .neg=>some (.int k (k.wrap (0 - n)))
    | .xor=>some (.int k (k.wrap (BitVec.ofInt k.bits (if k.signed then -1 else k.max) ^^^ BitVec.ofInt k.bits n).toNat))
    | _=>none
  | .bool b=>match op with
    | .not=>some (.bool (!b))
    | _=>none
  | _=>none
def cvI (k:IntKind):Value->Option Value
  | .int _ n=>some (.int k (k.wrap n))
  | _=>none
def zKL:Value->Option Value
  | .string s=>some (.int .i64 s.size)
  | _=>none
def zBO:Value->Option Value
  | .slice _ n _=>some (.int .i64 n)
  | _=>none
def zAb6:Value->Option Value
  | .slice _ _ n=>some (.int .i64 n)
  | _=>none
def bnd (d:Nat)(top:Nat):Option Value->Option Nat
  | none=>some d
  | some (.int _ i)=>if 0<=i/\i<=top then some i.toNat else none
  | some _=>none
def zKt (len cap:Nat)(low high max:Option Value):Option (Nat×Nat×Nat) :=
  (bnd cap cap max).bind fun m=>(bnd len m high).bind fun h=>(bnd 0 h low).map fun l=>(l,h,m)
def slS (size:Nat)(x:Value)(low high max:Option Value):Option Value :=
  match x with
  | .slice a len cap=>(if max.isSome && high.isNone then none else zKt len cap low high max).bind fun(l,h,m) =>
      match a with
      | none=>some (.slice none (h - l) (m - l))
      | some ⟨b,o,none⟩=>some (.slice (some ⟨b,if m=l then o else o+l * size,none⟩) (h - l) (m - l))
      | some a=>if l=0 then some (.slice (some a) h m) else none
  | _=>none
def slA (n size:Nat)(x:Value)(low high max:Option Value):Option Value :=
  match x with
  | .pointer (some ⟨b,o,none⟩)=>(if max.isSome && high.isNone then none else zKt n n low high max).map fun(l,h,m) =>
      .slice (some ⟨b,if m=l then o else o+l * size,none⟩) (h - l) (m - l)
  | _=>none
def slT (x:Value)(low high:Option Value):Option Value :=
  match x with
  | .string s=>(zKt s.size s.size low high none).map fun(l,h,_) => .string (s.extract l h)
  | _=>none
def zDy (i:Nat):Value->Option Value
  | .tuple vs=>vs[i]?
  | _=>none
def zCq (size:Nat)(H:zAd):Value->Option (Nat×Array Value)
  | .slice a n _=>if n=0 then some (0,#[]) else match a with
    | some ⟨b,o,none⟩=>match H[b]? with
      | some (.cells c _ _)=>if o+n * size<=c.size then some (n,c.extract o (o+n * size)) else none
      | _=>none
    | _=>none
  | .string s=>if size=1 then some (s.size,s.data.map fun b => .int .u8 b.toNat) else none
  | _=>none
def zIV (T:TypeId)(size bytes:Nat)(H:zAd)(s x:Value)(k:Value->zAd->Prop):Prop :=
  ∃ base len cap n new,s = .slice base len cap/\zCq size H x=some (n,new)/\new.all (·.oneCell')=true /\
    (len+n<=cap->match base with
      | none=>k (.slice none (len+n) cap) H
      | some ⟨b,o,none⟩=>Mwr (stA H b (o+len * size) new) fun h=>k (.slice base (len+n) cap) h
      | some _=>False) /\
    (cap<len+n->(len+n) * bytes<=140737488355328/\0<bytes/\∃ old,zCq size H (.slice base len cap)=some (len,old) /\
      ∀ cap' rest,len+n<=cap'->cap'<9223372036854775808->rest.size=(cap' - (len+n)) * size ->
        k (.slice (some ⟨H.size,0,none⟩) (len+n) cap') (H.push (.cells (old++new++rest) T (0,0))))
def zOZ (z:Array Value)(n:Nat):Array Value:=(Array.range n).map fun i=>z[i % z.size]!
def zAam (T:TypeId)(size bytes:Nat)(H:zAd)(s x:Value)(z:Option (Array Value))(k:Value->zAd->Prop):Prop :=
  ∃ base len cap kx n zc,s = .slice base len cap/\x = .int kx (n:Nat)/\n * bytes<=140737488355328/\n<9223372036854775808/\z=some zc/\(zOZ zc (n * size)).all (·.oneCell')=true /\
    (len+n<=cap->match base with
      | none=>k (.slice none (len+n) cap) H
      | some ⟨b,o,none⟩=>Mwr (stA H b (o+len * size) (zOZ zc (n * size))) fun h=>k (.slice base (len+n) cap) h
      | some _=>False) /\
    (cap<len+n->(len+n) * bytes<=140737488355328/\0<bytes/\∃ old,zCq size H (.slice base len cap)=some (len,old) /\
      ∀ cap' rest,len+n<=cap'->cap'<9223372036854775808->rest.size=(cap' - (len+n)) * size ->
        k (.slice (some ⟨H.size,0,none⟩) (len+n) cap') (H.push (.cells (old++zOZ zc (n * size)++rest) T (0,0))))
def zNU (size:Nat)(H:zAd)(d s:Value)(k:Value->zAd->Prop):Prop :=
  ∃ n new base len cap,zCq size H s=some (n,new)/\d = .slice base len cap /\
    match base with
      | none=>k (.int .i64 (Nat.min n len)) H
      | some ⟨b,o,none⟩=>Mwr (stA H b o (new.extract 0 (Nat.min n len * size))) fun h=>k (.int .i64 (Nat.min n len)) h
      | some _=>False
def bytesOf:List Value->Option (List UInt8)
  | []=>some []
  | .int .u8 n :: r=>(bytesOf r).map (UInt8.ofNat n.toNat :: ·)
  | _=>none
def b2s (H:zAd)(v:Value):Option Value :=
  match v with
  | .slice _ _ _=>(zCq 1 H v).bind fun(_,c)=>(bytesOf c.toList).map fun l => .string ⟨l.toArray⟩
  | _=>none
def zWS (T:TypeId)(H:zAd)(s:Value)(k:Value->zAd->Prop):Prop :=
  ∃ str,s = .string str/\str.size<9223372036854775808/\∀ cap,str.size<=cap->cap<9223372036854775808 ->
    k (.slice (some ⟨H.size,0,none⟩) str.size cap) (H.push (.cells ((str.data.map fun b=>Value.int .u8 b.toNat)++Array.replicate (cap - str.size) (.int .u8 0)) T (cap,cap+1)))
def zNV (place:Nat->Option (Nat×Nat)):Array Value->List (Nat×Value)->Option (Array Value)
  | cells,[]=>some cells
  | cells,(i,v) :: r=>match place i with
    | some (off,size)=>if v.cells.size=size/\off+size<=cells.size then zNV place (spl cells off v.cells) r else none
    | none=>none
def zAat (op:Bool):List Value->Option Value
  | [.int k a,.int _ b]=>some (.int k (if op then (if b<a then b else a) else (if a<b then b else a)))
  | _=>none
def zKh (P:Program)(T:TypeId):Bool:=match P.underlying T with
  | some (.struct _)=>true
  | some (.array _ _)=>true
  | _=>false
def zXG (P:Program)(T:TypeId):Bool:=(P.underlying T).isSome && Nat.beq (P.cellsOf T) 1 && !zKh P T
def zUC (P:Program)(T:TypeId):Bool:=(P.info? T).isSome
def zAc4 (P:Program)(T:TypeId):Bool:=(P.underlying T).isSome
def zAB (P:Program)(T:TypeId):Option (Array Value):=(P.info? T).bind fun i=>i.zero.map Value.cells
def zO3 (P:Program)(good:TypeId->Option (List Nat)):Nat->List Field->Option (List Nat)
  | _,[]=>some []
  | o,f :: fs=>if f.offset == o && f.name != "_" then (match good f.type with
      | some ks=>if ks.length == P.cellsOf f.type then (zO3 P good (o+P.cellsOf f.type) fs).map (ks ++ ·) else none
      | none=>none) else none
def zMw (P:Program):Nat->TypeId->Option (List Nat)
  | 0,_=>none
  | d+1,T=>match P.underlying T with
    | some (.int _)=>some [0]
    | some .bool=>some [1]
    | some .string=>some [2]
    | some (.struct fs)=>if P.stoodInHeld T then none else zO3 P (zMw P d) 0 fs.toList
    | some (.array n e)=>match zMw P d e with
      | some ks=>if ks.length == P.cellsOf e then some (List.replicate n ks).flatten else none
      | none=>none
    | _=>none
def eqK (P:Program)(T:TypeId):EqK:=match P.underlying T with
  | some .bool => .bool
  | some (.pointer e)=>if (P.info? e).isSome then .ptr else .no
  | some (.slice _) => .slc
  | some (.func _ _ _) => .fn
  | some (.struct _)=>if P.eqGuardType P.depth T then .no else (match zMw P 9 T with | some ks => .flat ks | none => .no)
  | some (.array _ _)=>if P.eqGuardType P.depth T then .no else (match zMw P 9 T with | some ks => .flat ks | none => .no)
  | _ => .no
def zSi (P:Program)(T:TypeId):Bool:=match P.underlying T with
  | some (.int _)=>(match P.info? T with | some i=>i.comparable | none=>false)
  | _=>false
def isC:Operand->Bool
  | .const _=>true
  | _=>false
def eqQ (P:Program)(T:TypeId)(x y:Operand):EqK:=match P.underlying T with
  | some (.interface _) => .ifc (zSi P) (isC x || isC y)
  | _=>eqK P T
def zXH (P:Program)(T:TypeId):Bool:=match zAB P T with
  | some z=>Nat.beq z.size (P.cellsOf T)
  | none=>false
def zA4 (P:Program)(T:TypeId)(parts:List (Nat×Value)):Option Value :=
  match P.underlying T with
  | some (.struct fs)=>match fs.toList.mapM (fun f=>(P.info? f.type).map fun i=>(f.offset,i.size)) with
    | some places=>(zAB P T).bind fun z=>(zNV (places.toArray[·]?) z parts).map .agg
    | none=>none
  | some (.array _ e)=>match P.info? e with
    | some i=>(zAB P T).bind fun z=>(zNV (fun j=>some (j * i.size,i.size)) z parts).map .agg
    | none=>none
  | _=>none
def zFt (P:Program)(e:TypeId)(len:Nat)(parts:List (Nat×Value)):Option (Array Value) :=
  if P.cellsOf e=0\/len * P.cellsOf e > 16777216 then none else
  (zAB P e).bind fun z=>if z.size=P.cellsOf e then zNV (fun i=>some (i * P.cellsOf e,P.cellsOf e)) (zOZ z (len * P.cellsOf e)) parts else none
def zC5 (H:zAd)(T:TypeId)(len:Nat)(c:Option (Array Value))(k:Value->zAd->Prop):Prop :=
  ∃ cs,c=some cs/\k (.slice (some ⟨H.size,0,none⟩) len len) (H.push (.cells cs T (0,0)))
def zAhN (P:Program)(H:zAd)(e:TypeId)(l c:Value)(k:Value->zAd->Prop):Prop :=
  ∃ kl kc n m z,l = .int kl (n:Nat)/\c = .int kc (m:Nat)/\n<=m/\m * P.bytesOf e<=281474976710656/\m<=9223372036854775807/\zAB P e=some z/\(P.info? e).isSome=true /\
    k (.slice (some ⟨H.size,0,none⟩) n m) (H.push (.cells (zOZ z (m * P.cellsOf e)) e (0,0)))
def mkI (P:Program)(T:TypeId)(v:Value):Option Value:=match P.underlying T with
  | some (.interface _)=>none
  | some _=>some (.iface T v)
  | none=>none
inductive XR where
  | val (v:Value)
  | pu (r:Option Value)
  | rd (r:Option Value)
  | wr (r:Option zAd)
  | nw (T:TypeId) (c:Option (Array Value))
  | nws (T:TypeId) (len:Nat) (c:Option (Array Value))
  | ap (T:TypeId) (size bytes:Nat) (s x:Value)
  | az (T:TypeId) (size bytes:Nat) (s x:Value) (z:Option (Array Value))
  | cp (size:Nat) (d s:Value)
  | sb (T:TypeId) (s:Value)
  | cl (f:FuncId) (args:List Value)
  | cv (fv:Value) (args:List Value)
  | mk (T:TypeId) (l c:Value)
  | sm (s:Sem Value)
  | su (s:Sem Unit)
  | raw
  | no
def idS:Value->Option Value
  | .string s=>some (.string s)
  | _=>none
def opR (P:Program)(o:Op)(ρ:Operand->Value)(H:zAd):XR :=
  match o with
  | .move x => .val (ρ x)
  | .assign x => .val (ρ x)
  | .pick c a b => .pu (zAC (ρ c) (ρ a) (ρ b))
  | .alloc T => .nw T (zAB P T)
  | .box T x => .nw T (some (ρ x).cells)
  | .build T parts => .pu (zA4 P T (parts.toList.map fun p=>(p.1,ρ p.2)))
  | .buildSlice T len parts=>match P.underlying T with
    | some (.slice e) => .nws e len (zFt P e len (parts.toList.map fun p=>(p.1,ρ p.2)))
    | _ => .no
  | .load T a=>bif zKh P T then .rd (ldN (P.cellsOf T) H (ρ a)) else bif zXG P T then .rd (ld1 H (ρ a)) else .no
  | .store T a x=>bif zKh P T then .wr (stN (P.cellsOf T) H (ρ a) (ρ x)) else bif zXG P T then .wr (st1 H (ρ a) (ρ x)) else .no
  | .nilCheck x => .pu (nck (ρ x))
  | .binOp op T x y _ => .pu (zAh (eqQ P T x y) op (ρ x) (ρ y))
  | .unOp op _ x => .pu (unV op (ρ x))
  | .convert s d x=>match P.underlying s,P.underlying d with
    | some (.int _),some (.int kd) => .pu (cvI kd (ρ x))
    | some (.slice e),some .string=>match P.underlying e with
      | some (.int .u8) => .rd (b2s H (ρ x))
      | _ => .no
    | some .string,some (.slice e)=>match P.underlying e with
      | some (.int .u8) => .sb e (ρ x)
      | _ => .no
    | some .string,some .string => .pu (idS (ρ x))
    | some (.pointer _),some .unsafePointer => .sm (convert s d (ρ x))
    | some .unsafePointer,some (.pointer _) => .sm (convert s d (ρ x))
    | _,_ => .raw
  | .makeFunc fn a b => .val (.func fn (a.map ρ) (b.map ρ))
  | .makeInterface T x => .pu (mkI P T (ρ x))
  | .makeSlice T l c=>match P.underlying T with
    | some (.slice e) => .mk e (ρ l) (ρ c)
    | _ => .no
  | .panic _ => .no
  | .slice T x lo hi mx=>match P.underlying T with
    | some (.slice e)=>bif zUC P e then .pu (slS (P.cellsOf e) (ρ x) (lo.map ρ) (hi.map ρ) (mx.map ρ)) else .no
    | some (.array n e)=>bif zUC P e then .pu (slA n (P.cellsOf e) (ρ x) (lo.map ρ) (hi.map ρ) (mx.map ρ)) else .no
    | some .string=>bif mx.isNone then .pu (slT (ρ x) (lo.map ρ) (hi.map ρ)) else .no
    | _ => .raw
  | .fieldAddr S x f=>match P.underlying S with
    | some (.struct fs)=>match fs[f]? with
      | some fd=>bif Nat.beq (P.cellsOf fd.type) 0 then .raw else .pu (fld fd.offset (ρ x))
      | none => .no
    | _ => .no
  | .field S x f=>match P.underlying S with
    | some (.struct fs)=>match fs[f]? with
      | some fd=>bif zAc4 P fd.type then .pu (zSh (zKh P fd.type) (P.cellsOf fd.type) fd.offset (ρ x)) else .no
      | none => .no
    | _ => .no
  | .indexAddr T x i=>match P.underlying T with
    | some (.slice e)=>bif zUC P e then .pu (ixS (P.cellsOf e) (ρ x) (ρ i)) else .no
    | some (.array n e)=>bif zUC P e then .pu (ixA n (P.cellsOf e) (ρ x) (ρ i)) else .no
    | _ => .no
  | .index T x i=>match P.underlying T with
    | some .string => .pu (ixT (ρ x) (ρ i))
    | some (.array n e)=>bif zAc4 P e then .pu (ixV n (zKh P e) (P.cellsOf e) (ρ x) (ρ i)) else .no
    | _ => .no
  | .extract x i => .pu (zDy i (ρ x))
  | .makeMap t r => .sm (Instr.makeMap t (r.map ρ))
  | .lookup t x i ok => .sm (Instr.lookup t (ρ x) (ρ i) ok)
  | .mapUpdate t m k x => .su (Instr.mapUpdate t (ρ m) (ρ k) (ρ x))
  | .range T x => .sm (Instr.range T (ρ x))
  | .next it s => .sm (Instr.next (ρ it) s 0)
  | .entry it => .sm (Instr.entry (ρ it))
  | .insert t m k x => .su (Instr.mapUpdate t (ρ m) (ρ k) (ρ x))
  | .call c=>match c.callee with
    | .value x=>match x with
      | .func f=>bif zMv P f then .cl f (c.args.toList.map ρ) else bif (zXV P f).isSome then .sm (xtV P f (c.args.toList.map ρ).toArray) else .raw
      | .tmp t => .cv (ρ (.tmp t)) (c.args.toList.map ρ)
      | .const v => .cv (ρ (.const v)) (c.args.toList.map ρ)
      | .global _ => .raw
    | .builtin .len=>match c.argTypes.toList,c.args.toList with
      | [T],[x]=>match P.underlying T with
        | some .string => .pu (zKL (ρ x))
        | some (.slice _) => .pu (zBO (ρ x))
        | some (.array n _) => .val (.int .i64 n)
        | some (.map _ _) => .sm (Builtin.len_ #[T] 0 #[ρ x])
        | _ => .raw
      | _,_ => .raw
    | .builtin .cap=>match c.argTypes.toList,c.args.toList with
      | [T],[x]=>match P.underlying T with
        | some (.slice _) => .pu (zAb6 (ρ x))
        | _ => .raw
      | _,_ => .raw
    | .builtin .append=>match c.argTypes.toList,c.args.toList with
      | [T,U],[s,x]=>match P.underlying T,P.underlying U with
        | some (.slice e),some (.slice _)=>bif zXH P e then .ap e (P.cellsOf e) (P.bytesOf e) (ρ s) (ρ x) else .no
        | some (.slice e),some .string=>bif zXH P e then .ap e (P.cellsOf e) (P.bytesOf e) (ρ s) (ρ x) else .no
        | some (.slice e),some (.int _)=>bif zXH P e then .az e (P.cellsOf e) (P.bytesOf e) (ρ s) (ρ x) (zAB P e) else .no
        | _,_ => .raw
      | _,_ => .raw
    | .builtin .copy=>match c.argTypes.toList,c.args.toList with
      | [T,_],[d,s]=>match P.underlying T with
        | some (.slice e)=>bif zUC P e then .cp (P.cellsOf e) (ρ d) (ρ s) else .no
        | _ => .raw
      | _,_ => .raw
    | .builtin .unsafeSliceData=>match c.args.toList with
      | [x] => .pu (usd (ρ x))
      | _ => .raw
    | .builtin .unsafeString => .sm (Builtin.unsafeString_ c.argTypes 0 (c.args.toList.map ρ).toArray)
    | .builtin .clear => .sm (Builtin.clear_ c.argTypes 0 (c.args.toList.map ρ).toArray)
    | .builtin .delete => .sm (Builtin.delete_ c.argTypes 0 (c.args.toList.map ρ).toArray)
    | .builtin .min => .pu (zAat true (c.args.toList.map ρ))
    | .builtin .max => .pu (zAat false (c.args.toList.map ρ))
    | _ => .raw
  | _ => .raw
def opX (P:Program)(q:Bool)(o:Oper)(ρ:Operand->Value)(H:zAd)(k:Value->zAd->Prop):Prop :=
  match opR P o.op ρ H with
  | .val v=>k v H
  | .pu r=>Mpu r fun v=>k v H
  | .rd r=>Mpu r fun v=>k v H
  | .wr r=>Mwr r fun h=>k undef h
  | .nw T c=>zBH H T c k
  | .nws T len c=>zC5 H T len c k
  | .ap T size bytes s x=>zIV T size bytes H s x k
  | .az T size bytes s x z=>zAam T size bytes H s x z k
  | .cp size d s=>zNU size H d s k
  | .sb T s=>zWS T H s k
  | .cl f args=>bif q then zAe5 P f args H k else zAp P f args H k
  | .cv fv args=>bif q then zBF P fv args H fun v h=>Ext H h/\k v h else zBF P fv args H k
  | .mk e l c=>zAhN P H e l c k
  | .sm s=>zNt P s H k
  | .su s=>Msu P s H k
  | .raw=>zRq P o ρ H k
  | .no=>False
theorem zF8 (b o n:Nat):(⟨b,o,none⟩:Addr).add n=⟨b,o+n,none⟩:=by
  unfold Addr.add;split <;> simp_all
theorem zUG {w:World}{b:Nat}{c:Array Value}{T:TypeId}{f:Nat×Nat}(h:w.heap[b]? = some (.cells c T f))(o:Nat):w.cell? ⟨b,o,none⟩=c[o]?:=by
  simp[World.cell?,h]
theorem zHe {P:Program}{T:TypeId}{i:TypeInfo}(h:P.info? T=some i)(w:World):(typeInfo T).run P w = .ok i w:=by
  simp[typeInfo,h]
theorem zAZ {P:Program}{T:TypeId}{d:TypeDesc}(h:P.underlying T=some d)(w:World):(underlying T).run P w = .ok d w:=by
  simp[underlying,h]
theorem zOi {P:Program}{T:TypeId}{d:TypeDesc}(h:P.underlying T=some d):∃ i,P.info? T=some i:=by
  unfold Program.underlying at h
  cases hi:P.info? T with
  | none=>simp[hi]at h
  | some i=>exact⟨i,rfl⟩
theorem zRC {P:Program}{T:TypeId}(h:P.cellsOf T≠0):∃ i,P.info? T=some i/\i.size=P.cellsOf T:=by
  unfold Program.cellsOf at *
  cases hi:P.info? T with
  | none=>simp[hi]at h
  | some i=>exact⟨i,rfl,by simp⟩
theorem zCc {P:Program}{T:TypeId}{i:TypeInfo}(h:P.info? T=some i)(w:World):(sizeOf T).run P w = .ok (P.cellsOf T) w:=by
  simp[sizeOf,zHe h,Program.cellsOf,h]
theorem zOj {P:Program}{T:TypeId}{d:TypeDesc}(h:P.underlying T=some d)(w:World):(isAgg T).run P w = .ok (zKh P T) w:=by
  unfold isAgg zKh
  rw[Sem.run_bind,zAZ h w,h]
  cases d <;> simp
theorem zVC {P:Program}{T:TypeId}(h:zKh P T=true):∃ d,P.underlying T=some d:=by
  unfold zKh at h
  cases hu:P.underlying T with
  | none=>simp[hu]at h
  | some d=>exact⟨d,rfl⟩
theorem zTk {P:Program}{w:World}{a:Addr}:(loadCells a 0).run P w = .ok #[] w:=run_loadCells_list (P:=P) w a [] (fun j v hv=>by cases hv)
theorem zQj {P:Program}{w:World}{b o n:Nat}{c:Array Value}{T:TypeId}{f:Nat×Nat}(h:w.heap[b]? = some (.cells c T f))(hn:o+n<=c.size) :
    (loadCells ⟨b,o,none⟩ n).run P w = .ok (c.extract o (o+n)) w:=by
  have hl:=run_loadCells_list (P:=P) w ⟨b,o,none⟩ (c.extract o (o+n)).toList (fun j v hv=>by
    rw[zF8,zUG h]
    have hj:j<n:=by
      have:=(List.getElem?_eq_some_iff.1 hv).1
      simp at this;omega
    rw[Array.getElem?_toList,Array.getElem?_extract]at hv
    rw[if_pos (by omega)]at hv
    exact hv)
  have e:(c.extract o (o+n)).toList.length=n:=by simp;omega
  rw[e]at hl
  rw[hl]
theorem zVD {P:Program}{b o:Nat}{T:TypeId}{f:Nat×Nat}:∀ (vs:List Value) (i:Nat) (c:Array Value) (w:World),w.heap[b]? = some (.cells c T f)->o+i+vs.length<=c.size ->
    zRB f (o+i) vs.length=true->(∀ v ∈ vs,v.oneCell'=true) ->
    (storeCells ⟨b,o,none⟩ vs i).run P w = .ok () { w with heap:=w.heap.setIfInBounds b (.cells (c.toList.take (o+i)++vs++c.toList.drop (o+i+vs.length)).toArray T f) }
  | [],i,c,w,hg,_,_,_=>by
    have hb:=(Array.getElem?_eq_some_iff.1 hg)
    obtain⟨hb1,hb2⟩:=hb
    simp only[storeCells,List.append_nil,List.length_nil,Nat.add_zero,List.take_append_drop,Array.toArray_toList]
    have:w.heap.setIfInBounds b (.cells c T f)=w.heap:=by
      apply Array.ext_getElem?
      intro k
      rw[Array.getElem?_setIfInBounds]
      split
      · rename_i e;subst e;simp[hb1,hb2]
      · rfl
    rw[this]
    rfl
  | v :: rest,i,c,w,hg,hl,hz,h1=>by
    have hi:o+i<c.size:=by simp at hl;omega
    have hb1:=(Array.getElem?_eq_some_iff.1 hg).1
    have hfro:w.frozen? ⟨b,o+i,none⟩=false:=by
      simp only[World.frozen?,hg]
      simp only[zRB,List.length_cons,Bool.or_eq_true,decide_eq_true_eq]at hz
      simp only[Bool.and_eq_false_iff,decide_eq_false_iff_not]
      omega
    have hset:w.setCell ⟨b,o+i,none⟩ v = { w with heap:=w.heap.setIfInBounds b (.cells (c.setIfInBounds (o+i) v) T f) }:=by
      unfold World.setCell
      congr 1
      apply Array.ext_getElem?
      intro k
      rw[Array.getElem?_modify,Array.getElem?_setIfInBounds]
      split
      · rename_i e;subst e;rw[hg];simp[hb1]
      · rfl
    have hst:(store ((⟨b,o,none⟩:Addr).add i) v).run P w = .ok () { w with heap:=w.heap.setIfInBounds b (.cells (c.setIfInBounds (o+i) v) T f) }:=by
      rw[zF8,run_store P w _ v _ (h1 v (by simp)),zUG hg]
      simp[hfro,hset,hi]
    have ih:=zVD (P:=P) (b:=b) (o:=o) (T:=T) (f:=f) rest (i+1) (c.setIfInBounds (o+i) v) { w with heap:=w.heap.setIfInBounds b (.cells (c.setIfInBounds (o+i) v) T f) }
      (by simp[hb1]) (by simp at hl ⊢;omega) (by
        simp only[zRB,List.length_cons,Bool.or_eq_true,decide_eq_true_eq]at hz ⊢
        omega) (fun x hx=>h1 x (by simp[hx]))
    have e:=list_seg_step c.toList (o+i) v rest (by simp at hl ⊢;omega)
    have e':List.take (o+(i+1)) (c.setIfInBounds (o+i) v).toList++rest++List.drop (o+(i+1)+rest.length) (c.setIfInBounds (o+i) v).toList =
        List.take (o+i) c.toList++v :: rest++List.drop (o+i+(v :: rest).length) c.toList:=by
      simpa [Array.toList_setIfInBounds,Nat.add_assoc] using e
    simp only[storeCells,Sem.run_bind,hst,Result.andThen_ok,ih,e',Array.setIfInBounds_setIfInBounds]
theorem zMx {P:Program}{o:Oper}{ρ:Operand->Value}{H:zAd}{k:Value->zAd->Prop}{v:Value}
    (h:∀ w,w.heap=H->(execOp ρ o).run P w = .ok (.value v) w) (hk:k v H):zRq P o ρ H k :=
  fun w hw=>⟨.value v,w,h w hw,zHd.rfl' w,.inl ⟨v,rfl,hw ▸ hk⟩⟩
theorem zRr {P:Program}{o:Oper}{ρ:Operand->Value}{H H':zAd}{k:Value->zAd->Prop}{v:Value}
    (h:∀ w,w.heap=H->(execOp ρ o).run P w = .ok (.value v) { w with heap:=H' }) (hk:k v H') (hs:zDL H H'):zRq P o ρ H k :=
  fun w hw=>⟨.value v,_,h w hw,⟨rfl,rfl,rfl,by rw[hw];exact hs⟩,.inl ⟨v,rfl,hk⟩⟩
theorem zSj {P:Program}{o:Oper}{ρ:Operand->Value}{H H':zAd}{k:Value->zAd->Prop}
    (h:∀ w,w.heap=H->(execOp ρ o).run P w = .ok .skip { w with heap:=H' }) (hk:k undef H') (hs:zDL H H'):zRq P o ρ H k :=
  fun w hw=>⟨.skip,_,h w hw,⟨rfl,rfl,rfl,by rw[hw];exact hs⟩,.inr ⟨rfl,hk⟩⟩
theorem zOk {H H':zAd}{b o:Nat}{vs:Array Value}(h:stA H b o vs=some H'):zDL H H':=by
  unfold stA at h
  split at h
  · rename_i hb;split at h
    · cases h;exact zDL.set hb
    · cases h
  · cases h
theorem zXW {H H':zAd}{p v:Value}(h:st1 H p v=some H'):zDL H H':=by
  unfold st1 at h
  split at h
  · split at h
    · rename_i hb;split at h
      · cases h;exact zDL.set hb
      · cases h
    · cases h
  · cases h
theorem zXX {n:Nat}{H H':zAd}{p v:Value}(h:stN n H p v=some H'):zDL H H':=by
  unfold stN at h
  split at h
  · split at h
    · exact zOk h
    · cases h
  · cases h
theorem zQk {P:Program}{T:TypeId}(h:zXG P T=true):(∃ d,P.underlying T=some d)/\zKh P T=false/\P.cellsOf T=1:=by
  unfold zXG at h
  simp only[Bool.and_eq_true,Option.isSome_iff_exists,Bool.not_eq_true']at h
  exact⟨h.1.1,h.2,Nat.eq_of_beq_eq_true h.1.2⟩
theorem zTl {P:Program}{T:TypeId}{p v:Value}{H:zAd}(hT:∃ d,P.underlying T=some d)(ha:zKh P T=false)(h:ld1 H p=some v)(w:World)(hw:w.heap=H) :
    (Instr.loadAt T p).run P w = .ok v w:=by
  subst hw
  unfold ld1 at h
  split at h
  · rename_i b o
    split at h
    · rename_i c t f hg
      obtain⟨d,hd⟩:=hT
      simp[Instr.loadAt,Instr.sureAddr,loadVar,zOj hd,ha,zUG hg,h]
    · cases h
  · cases h
theorem zTm {P:Program}{T:TypeId}{p v:Value}{H:zAd}(ha:zKh P T=true)(h:ldN (P.cellsOf T) H p=some v)(w:World)(hw:w.heap=H) :
    (Instr.loadAt T p).run P w = .ok v w:=by
  subst hw
  unfold ldN at h
  split at h
  · rename_i b o
    split at h
    · rename_i c t f hg
      split at h
      · rename_i hle
        obtain⟨d,hd⟩:=zVC ha
        obtain⟨i,hi⟩:=zOi hd
        cases h
        simp[Instr.loadAt,Instr.sureAddr,loadVar,zOj hd,ha,zCc hi,zQj hg hle]
      · cases h
    · cases h
  · cases h
theorem zWT {P:Program}{T:TypeId}{p v:Value}{H H':zAd}(hs:P.cellsOf T=1)(h:st1 H p v=some H')(w:World)(hw:w.heap=H) :
    (Instr.storeAt T p v).run P w = .ok () { w with heap:=H' }:=by
  subst hw
  obtain⟨i,hi,his⟩:=zRC (P:=P) (T:=T) (by omega)
  unfold st1 at h
  split at h
  · rename_i b o
    split at h
    · rename_i c t f hg
      split at h
      · rename_i hc
        cases h
        have hone:v.cells=#[v]:=by
          have:=hc.2.2
          cases v <;> simp_all [Value.cells,Value.oneCell']
        have hst:=zVD (P:=P) (b:=b) (o:=o) (T:=t) (f:=f) [v] 0 c w hg (by simp;omega) (by simpa using hc.2.1) (by simpa using hc.2.2)
        simp only[Instr.storeAt,Instr.sureAddr,storeVar,hone,Sem.run_bind,Sem.run_pure,Result.andThen_ok,zCc hi,hs]
        simp only[List.size_toArray,List.length_cons,List.length_nil,ne_eq,not_true_eq_false,if_false,Nat.zero_add]
        simp only[Sem.run_pure,Result.andThen_ok,hst]
        congr 2
        apply Array.ext_getElem?
        intro k
        rw[Array.getElem?_setIfInBounds,Array.getElem?_setIfInBounds]
        split
        · congr 3
          apply Array.ext'
          have ho:=hc.1
          apply List.ext_getElem?
          intro j
          simp only[Nat.add_zero,List.length_cons,List.length_nil,Nat.zero_add,Array.toList_setIfInBounds,List.getElem?_set,List.append_assoc,List.getElem?_append,List.length_take,Array.length_toList,List.getElem?_take]
          by_cases h1:j<o
          · simp[h1,show o≠j by omega,show min o c.size=o by omega]
          · by_cases h2:j=o
            · subst h2;simp[show min j c.size=j by omega,ho]
            · simp[show min o c.size=o by omega,h1,show o≠j by omega,show j - o≠0 by omega,show ¬ (j - o=0) by omega]
              simp[show o+1+(j - o - 1)=j by omega]
        · rfl
      · cases h
    · cases h
  · cases h
theorem zWU {P:Program}{T:TypeId}{p v:Value}{H H':zAd}(hT:zKh P T=true)(h:stN (P.cellsOf T) H p v=some H')(w:World)(hw:w.heap=H) :
    (Instr.storeAt T p v).run P w = .ok () { w with heap:=H' }:=by
  subst hw
  obtain⟨d,hd⟩:=zVC hT
  obtain⟨i,hi⟩:=zOi hd
  unfold stN at h
  split at h
  · rename_i b o vs
    split at h
    · rename_i hsz
      unfold stA at h
      split at h
      · rename_i c t f hg
        split at h
        · rename_i hc
          cases h
          have hst:=zVD (P:=P) (b:=b) (o:=o) (T:=t) (f:=f) vs.toList 0 c w hg (by simp;omega) (by simpa using hc.2.1) (by
            intro v hv
            exact(Array.all_eq_true_iff_forall_mem.1 hc.2.2) v (by simpa using hv))
          simp only[Instr.storeAt,Instr.sureAddr,storeVar,Value.cells,Sem.run_bind,Sem.run_pure,Result.andThen_ok,zCc hi]
          simp only[ne_eq,hsz,not_true_eq_false,if_false,Sem.run_pure,Result.andThen_ok]
          rw[hst]
          simp[spl,hsz]
        · cases h
      · cases h
    · cases h
  · cases h
section
variable {P:Program} {w:World}
theorem zAau {c a b v:Value}(h:zAC c a b=some v):(do pure (if <- asBool c then a else b):Sem Value).run P w = .ok v w:=by
  cases c <;> simp[zAC]at h
  subst h
  simp[asBool]
theorem zXY {T:TypeId}{cs:Array Value}(h:zAB P T=some cs):(Instr.alloc T true (.tuple #[])).run P w = .ok (.pointer (some ⟨w.heap.size,0,none⟩)) { w with heap:=w.heap.push (.cells cs T (0,0)) }:=by
  unfold zAB at h
  cases hi:P.info? T with
  | none=>simp[hi]at h
  | some i =>
    simp only[hi,Option.bind_some]at h
    cases hz:i.zero with
    | none=>simp[hz]at h
    | some z =>
      simp only[hz,Option.map_some,Option.some.injEq]at h
      subst h
      simp[Instr.alloc,zeroValue,zHe hi,hz,newVar,newRow]
theorem zAav {T:TypeId}{cs:Array Value}(h:zAB P T=some cs):∃ z,(zeroValue T).run P w = .ok z w/\z.cells=cs:=by
  unfold zAB at h
  cases hi:P.info? T with
  | none=>simp[hi]at h
  | some i =>
    simp only[hi,Option.bind_some]at h
    cases hz:i.zero with
    | none=>simp[hz]at h
    | some z =>
      simp only[hz,Option.map_some,Option.some.injEq]at h
      exact⟨z,by simp[zeroValue,zHe hi,hz],h⟩
theorem zAc5 {T:TypeId}{v:Value}:(Instr.box T v).run P w = .ok (.pointer (some ⟨w.heap.size,0,none⟩)) { w with heap:=w.heap.push (.cells v.cells T (0,0)) }:=by
  simp[Instr.box,newVar,newRow]
theorem zAc6 {o:Oper}{ρ:Operand->Value}{x:Operand}(ho:o.op = .nilCheck x){v:Value}(h:nck (ρ x)=some v):(execOp ρ o).run P w = .ok (.value v) w:=by
  unfold execOp
  rw[ho]
  simp only[]
  unfold nck at h
  split at h
  · rename_i a e;rw[e];cases h;rfl
  · rename_i f a b e;rw[e];cases h;rfl
  · cases h
theorem zAc7 {S f:Nat}{p v:Value}{fs:Array Field}{fd:Field}(hu:P.underlying S=some (.struct fs))(hf:fs[f]? = some fd)(hs:P.cellsOf fd.type≠0)(h:fld fd.offset p=some v) :
    (Instr.fieldAt S p f).run P w = .ok v w:=by
  obtain⟨i,hi,his⟩:=zRC hs
  unfold fld at h
  split at h
  · rename_i b o
    cases h
    have hs':¬ P.cellsOf fd.type=0:=hs
    simp[Instr.fieldAt,zAZ hu,hf,Instr.sureAddr,fieldPlace,zCc hi,hs',zF8]
  · cases h
theorem zP5 {T:TypeId}{d:TypeDesc}(hu:P.underlying T=some d){off:Nat}{cs:Array Value}{v:Value}(h:zSh (zKh P T) (P.cellsOf T) off (.agg cs)=some v) :
    (part T cs off).run P w = .ok v w:=by
  obtain⟨i,hi⟩:=zOi hu
  unfold zSh at h
  simp only at h
  unfold part
  cases ha:zKh P T with
  | true =>
    simp only[ha,if_true,Option.some.injEq]at h
    simp[zOj hu,ha,zCc hi,h]
  | false =>
    simp only[ha,Bool.false_eq_true,if_false]at h
    simp[zOj hu,ha,h]
theorem zAc8 {T e:TypeId}(hu:P.underlying T=some (.slice e))(he:∃ i,P.info? e=some i){x i v:Value}(h:ixS (P.cellsOf e) x i=some v) :
    (Instr.indexAt T x i).run P w = .ok v w:=by
  obtain⟨ie,hie⟩:=he
  unfold ixS at h
  split at h
  · rename_i b o len cap k n
    split at h
    · rename_i hc
      cases h
      simp[Instr.indexAt,asIntOf,zAZ hu,hc,zCc hie,zF8]
    · cases h
  · cases h
theorem zAc9 {T e:TypeId}{n:Nat}(hu:P.underlying T=some (.array n e))(he:∃ i,P.info? e=some i){x i v:Value}(h:ixA n (P.cellsOf e) x i=some v) :
    (Instr.indexAt T x i).run P w = .ok v w:=by
  obtain⟨ie,hie⟩:=he
  unfold ixA at h
  split at h
  · rename_i b o k n
    split at h
    · rename_i hc
      cases h
      simp[Instr.indexAt,asIntOf,zAZ hu,Instr.sureAddr,hc,zCc hie,zF8]
    · cases h
  · cases h
theorem zAda {T:TypeId}(hu:P.underlying T=some .string){x i v:Value}(h:ixT x i=some v):(Instr.index T x i).run P w = .ok v w:=by
  unfold ixT at h
  split at h
  · rename_i s k n
    split at h
    · rename_i hn
      cases hs:s[n.toNat]? with
      | none=>simp[hs]at h
      | some b =>
        simp only[hs,Option.map_some,Option.some.injEq]at h
        simp[Instr.index,asIntOf,zAZ hu,hn,hs,h]
    · cases h
  · cases h
theorem zAdb {T e:TypeId}{n:Nat}(hu:P.underlying T=some (.array n e)){d:TypeDesc}(he:P.underlying e=some d){x i v:Value}(h:ixV n (zKh P e) (P.cellsOf e) x i=some v) :
    (Instr.index T x i).run P w = .ok v w:=by
  obtain⟨ie,hie⟩:=zOi he
  unfold ixV at h
  split at h
  · rename_i cs k i
    split at h
    · rename_i hc
      have hp:=zP5 (P:=P) (w:=w) he (off:=i.toNat * P.cellsOf e) (cs:=cs) (v:=v) (by unfold zSh;exact h)
      simp[Instr.index,asIntOf,zAZ hu,hc,zCc hie,hp]
    · cases h
  · cases h
theorem zAdc {T:TypeId}{op:BinOp}{k:IntKind}{a b:Int}{v:Value}(h:zA9 op k a b=some v):(binOp op T (.int k a) (.int k b)).run P w = .ok v w:=by
  cases op <;> simp only[zA9,Option.some.injEq]at h <;> first
    | (subst h;simp[binOp,Op.intArith,Op.intBits,Op.intCmp];done)
    | (split at h
       · cases h
       · rename_i hb
         simp only[Option.some.injEq]at h
         subst h
         simp[binOp,Op.intDiv,Op.shift,hb])
theorem zTn {T:TypeId}{op:BinOp}{k k':IntKind}{a b:Int}{v:Value}(ho:op = .shl\/op = .shr)(h:zA9 op k a b=some v):(binOp op T (.int k a) (.int k' b)).run P w = .ok v w:=by
  rcases ho with rfl | rfl <;>
  · simp only[zA9]at h
    split at h
    · cases h
    · rename_i hb
      simp only[Option.some.injEq]at h
      subst h
      simp[binOp,Op.shift,hb]
theorem zAdd {T:TypeId}{op:BinOp}{a b:ByteArray}{v:Value}(h:zP4 op a b=some v):(binOp op T (.string a) (.string b)).run P w = .ok v w:=by
  cases op <;> simp only[zP4,Option.some.injEq]at h <;> first
    | (cases h;done)
    | (subst h;simp[binOp,Op.stringOp];done)
    | (split at h
       · cases h
       · rename_i hb
         simp only[Option.some.injEq]at h
         subst h
         simp only[binOp,Op.stringOp]
         rw[if_neg hb]
         rfl)
theorem zAe6 {op:UnOp}{x v:Value}(h:unV op x=some v):(Op.unary op x).run P w = .ok v w:=by
  cases x <;> cases op <;> simp[unV]at h <;> (subst h;simp[Op.unary,Op.intArith,Op.intBits])
theorem zAde {x v:Value}{i:Nat}(h:zDy i x=some v):(Instr.extract x i).run P w = .ok v w:=by
  cases x <;> simp only[zDy]at h <;> first
    | (cases h;done)
    | simp[Instr.extract,h]
theorem zLB {d top:Nat}{x:Value}{code:BoundsCode}{n:Nat}(h:bnd d top (some x)=some n):(Instr.sliceBound x top code).run P w = .ok n w:=by
  unfold bnd at h
  cases x <;> simp only[reduceCtorEq]at h
  rename_i k i
  split at h
  · rename_i hc
    cases h
    simp[Instr.sliceBound,asIntOf,hc]
  · cases h
theorem zSk {isS:Bool}{len cap:Nat}{low high max:Option Value}{l h m:Nat}(hb:zKt len cap low high max=some (l,h,m))(hm:(max.isSome && high.isNone)=false) :
    (Instr.sliceBounds isS len cap low high max).run P w = .ok (l,h,m) w:=by
  unfold zKt at hb
  cases hm':bnd cap cap max with
  | none=>simp[hm']at hb
  | some m' =>
    simp only[hm',Option.bind_some]at hb
    cases hh':bnd len m' high with
    | none=>simp[hh']at hb
    | some h' =>
      simp only[hh',Option.bind_some]at hb
      cases hl':bnd 0 h' low with
      | none=>simp[hl']at hb
      | some l' =>
        simp only[hl',Option.map_some,Option.some.injEq,Prod.mk.injEq]at hb
        obtain⟨rfl,rfl,rfl⟩:=hb
        cases max with
        | none =>
          simp only[bnd,Option.some.injEq]at hm'
          subst hm'
          cases high with
          | none =>
            simp only[bnd,Option.some.injEq]at hh'
            subst hh'
            cases low with
            | none=>simp only[bnd,Option.some.injEq]at hl';subst hl';simp[Instr.sliceBounds]
            | some lv=>simp[Instr.sliceBounds,zLB hl']
          | some hv =>
            cases low with
            | none=>simp only[bnd,Option.some.injEq]at hl';subst hl';simp[Instr.sliceBounds,zLB hh']
            | some lv=>simp[Instr.sliceBounds,zLB hh',zLB hl']
        | some mv =>
          cases high with
          | none=>simp at hm
          | some hv =>
            cases low with
            | none=>simp only[bnd,Option.some.injEq]at hl';subst hl';simp[Instr.sliceBounds,zLB hm',zLB hh']
            | some lv=>simp[Instr.sliceBounds,zLB hm',zLB hh',zLB hl']
theorem zAdf {T e:TypeId}(hu:P.underlying T=some (.slice e))(he:∃ i,P.info? e=some i){x v:Value}{low high max:Option Value}(h:slS (P.cellsOf e) x low high max=some v) :
    (Instr.sliceAt T x low high max).run P w = .ok v w:=by
  obtain⟨ie,hie⟩:=he
  unfold slS at h
  split at h
  · rename_i a len cap
    split at h
    · cases h
    · rename_i hm
      cases hb:zKt len cap low high max with
      | none=>simp[hb]at h
      | some t =>
        obtain⟨l,hh,m⟩:=t
        have hr:=zSk (P:=P) (w:=w) (isS:=true) hb (by revert hm;cases max.isSome <;> cases high.isNone <;> simp)
        simp only[hb,Option.bind_some]at h
        have hfin:(Instr.sliceAt T (.slice a len cap) low high max).run P w = .ok (.slice (if m=l then a else a.map (·.add (l * P.cellsOf e))) (hh - l) (m - l)) w:=by
          simp[Instr.sliceAt,zAZ hu,Instr.slice,hr,zCc hie]
        rw[hfin]
        rcases a with _ | ⟨b,o,_ | s⟩
        · simp only[Option.some.injEq]at h
          subst h
          simp
        · simp only[Option.some.injEq]at h
          subst h
          by_cases hml:m=l <;> simp[hml,zF8]
        · simp only at h
          split at h
          · rename_i hl0
            simp only[Option.some.injEq]at h
            subst h hl0
            have h0:(⟨b,o,some s⟩:Addr).add (0 * P.cellsOf e)=⟨b,o,some s⟩:=by
              rw[Nat.zero_mul]
              unfold Addr.add
              split <;> simp_all
            by_cases hml:m=0
            · simp[hml]
            · simp only[hml,if_false,Option.map_some,h0,Nat.sub_zero]
          · cases h
  · cases h
theorem zAdg {T e:TypeId}{n:Nat}(hu:P.underlying T=some (.array n e))(he:∃ i,P.info? e=some i){x v:Value}{low high max:Option Value}(h:slA n (P.cellsOf e) x low high max=some v) :
    (Instr.sliceAt T x low high max).run P w = .ok v w:=by
  obtain⟨ie,hie⟩:=he
  unfold slA at h
  split at h
  · rename_i b o
    split at h
    · cases h
    · rename_i hm
      cases hb:zKt n n low high max with
      | none=>simp[hb]at h
      | some t =>
        obtain⟨l,hh,m⟩:=t
        have hr:=zSk (P:=P) (w:=w) (isS:=false) hb (by revert hm;cases max.isSome <;> cases high.isNone <;> simp)
        simp only[hb,Option.map_some,Option.some.injEq]at h
        subst h
        by_cases hml:m=l <;> simp[Instr.sliceAt,zAZ hu,Instr.sureAddr,hr,zCc hie,hml,zF8]
  · cases h
theorem zAdh {T:TypeId}(hu:P.underlying T=some .string){x v:Value}{low high:Option Value}(h:slT x low high=some v) :
    (Instr.sliceAt T x low high none).run P w = .ok v w:=by
  unfold slT at h
  split at h
  · rename_i s
    cases hb:zKt s.size s.size low high none with
    | none=>simp[hb]at h
    | some t =>
      obtain⟨l,hh,m⟩:=t
      have hr:=zSk (P:=P) (w:=w) (isS:=false) hb (by simp)
      simp only[hb,Option.map_some,Option.some.injEq]at h
      subst h
      simp[Instr.sliceAt,zAZ hu,Instr.slice,hr]
  · cases h
end
end Go.X
