import Derived.Calls
import Derived.Orders
import Derived.OrdersIn
import Derived.RangeFuncIn
import Derived.RangeFuncCalls
import Derived.RangeFuncLeaves
import Derived.Laws.CopyRow
import Derived.Laws.Rows
import Derived.Laws.MakeOwn
import Derived.Laws.StructEq
import Derived.Laws.Unary
import Derived.Laws.Slices
set_option linter.unusedSimpArgs false
set_option linter.unusedVariables false
namespace Go.X
theorem zBq:type_of% @Array.all_eq_true_iff_forall_mem:=@Array.all_eq_true_iff_forall_mem
theorem zBl:type_of% @Array.getD_eq_getD_getElem?:=@Array.getD_eq_getD_getElem?
theorem zBj:type_of% @Array.getElem?_eq_getElem:=@Array.getElem?_eq_getElem
theorem zA8:type_of% @Array.getElem?_eq_some_iff:=@Array.getElem?_eq_some_iff
theorem zB4:type_of% @Array.getElem?_push:=@Array.getElem?_push
theorem zAD:type_of% @Array.getElem?_setIfInBounds:=@Array.getElem?_setIfInBounds
theorem zBo:type_of% @Array.mem_toList_iff:=@Array.mem_toList_iff
theorem zBY:type_of% @Array.toList_setIfInBounds:=@Array.toList_setIfInBounds
theorem zAm:type_of% @Bool.and_eq_true:=@Bool.and_eq_true
theorem zBP:type_of% @Bool.and_false:=@Bool.and_false
theorem zA1:type_of% @Bool.eq_iff_iff:=@Bool.eq_iff_iff
theorem zAV:type_of% @Bool.false_and:=@Bool.false_and
theorem zAb:type_of% @Bool.false_eq_true:=@Bool.false_eq_true
theorem zCC:type_of% @Bool.false_or:=@Bool.false_or
theorem zBf:type_of% @Bool.not_eq_true':=@Bool.not_eq_true'
theorem zAd:type_of% @Bool.not_false:=@Bool.not_false
theorem zAe:type_of% @Bool.not_true:=@Bool.not_true
theorem zBX:type_of% @Bool.or_eq_true:=@Bool.or_eq_true
theorem zA9:type_of% @Bool.true_and:=@Bool.true_and
theorem zAc:type_of% @Bool.true_eq_false:=@Bool.true_eq_false
theorem zCF:type_of% @Int.tdiv_eq_ediv_of_nonneg:=@Int.tdiv_eq_ediv_of_nonneg
theorem zC2:type_of% @Int.toNat_natCast:=@Int.toNat_natCast
theorem zCU:type_of% @List.all_append:=@List.all_append
theorem zCf:type_of% @List.all_eq_false:=@List.all_eq_false
theorem zAv:type_of% @List.all_eq_true:=@List.all_eq_true
theorem zBM:type_of% @List.any_eq_false:=@List.any_eq_false
theorem zBp:type_of% @List.any_eq_true:=@List.any_eq_true
theorem zBi:type_of% @List.append_assoc:=@List.append_assoc
theorem zAS:type_of% @List.append_nil:=@List.append_nil
theorem zCm:type_of% @List.cons_append:=@List.cons_append
theorem zB2:type_of% @List.drop_append_of_le_length:=@List.drop_append_of_le_length
theorem zCz:type_of% @List.drop_drop:=@List.drop_drop
theorem zBL:type_of% @List.drop_eq_getElem_cons:=@List.drop_eq_getElem_cons
theorem zCl:type_of% @List.drop_take:=@List.drop_take
theorem zCb:type_of% @List.drop_zero:=@List.drop_zero
theorem zCI:type_of% @List.ext_getElem?:=@List.ext_getElem?
theorem zCc:type_of% @List.filter_cons:=@List.filter_cons
theorem zCV:type_of% @List.find?_eq_none:=@List.find?_eq_none
theorem zCk:type_of% @List.findSome?_cons:=@List.findSome?_cons
theorem zBz:type_of% @List.flatten_append:=@List.flatten_append
theorem zBv:type_of% @List.flatten_cons:=@List.flatten_cons
theorem zA6:type_of% @List.getElem?_append_right:=@List.getElem?_append_right
theorem zCS:type_of% @List.getElem?_cons_succ:=@List.getElem?_cons_succ
theorem zCT:type_of% @List.getElem?_cons_zero:=@List.getElem?_cons_zero
theorem zCW:type_of% @List.getElem?_drop:=@List.getElem?_drop
theorem zAj:type_of% @List.getElem?_eq_getElem:=@List.getElem?_eq_getElem
theorem zC3:type_of% @List.getElem?_eq_none:=@List.getElem?_eq_none
theorem zAP:type_of% @List.getElem?_eq_some_iff:=@List.getElem?_eq_some_iff
theorem zAq:type_of% @List.getElem?_map:=@List.getElem?_map
theorem zCd:type_of% @List.getElem?_take:=@List.getElem?_take
theorem zAE:type_of% @List.getElem_mem:=@List.getElem_mem
theorem zBA:type_of% @List.getElem_of_mem:=@List.getElem_of_mem
theorem zAy:type_of% @List.length_append:=@List.length_append
theorem zAZ:type_of% @List.length_cons:=@List.length_cons
theorem zCN:type_of% @List.length_drop:=@List.length_drop
theorem zBg:type_of% @List.length_eq_zero_iff:=@List.length_eq_zero_iff
theorem zBs:type_of% @List.length_filter_le:=@List.length_filter_le
theorem zAf:type_of% @List.length_map:=@List.length_map
theorem zCQ:type_of% @List.length_reverse:=@List.length_reverse
theorem zBb:type_of% @List.length_singleton:=@List.length_singleton
theorem zBe:type_of% @List.length_take:=@List.length_take
theorem zAN:type_of% @List.map_append:=@List.map_append
theorem zBZ:type_of% @List.map_congr_left:=@List.map_congr_left
theorem zBa:type_of% @List.map_cons:=@List.map_cons
theorem zCs:type_of% @List.map_take:=@List.map_take
theorem zAr:type_of% @List.mem_append:=@List.mem_append
theorem zAp:type_of% @List.mem_cons:=@List.mem_cons
theorem zCL:type_of% @List.mem_cons_of_mem:=@List.mem_cons_of_mem
theorem zAU:type_of% @List.mem_filter:=@List.mem_filter
theorem zAo:type_of% @List.mem_map:=@List.mem_map
theorem zAC:type_of% @List.mem_of_getElem?:=@List.mem_of_getElem?
theorem zBR:type_of% @List.mem_of_mem_take:=@List.mem_of_mem_take
theorem zBS:type_of% @List.mem_range:=@List.mem_range
theorem zAI:type_of% @List.mem_singleton:=@List.mem_singleton
theorem zAX:type_of% @List.nil_append:=@List.nil_append
theorem zCw:type_of% @List.nodup_append:=@List.nodup_append
theorem zCu:type_of% @List.nodup_cons:=@List.nodup_cons
theorem zBT:type_of% @List.nodup_iff_pairwise_ne:=@List.nodup_iff_pairwise_ne
theorem zCO:type_of% @List.not_mem_nil:=@List.not_mem_nil
theorem zB5:type_of% @List.pairwise_cons:=@List.pairwise_cons
theorem zBC:type_of% @List.pairwise_iff_getElem:=@List.pairwise_iff_getElem
theorem zBw:type_of% @List.pairwise_map:=@List.pairwise_map
theorem zCJ:type_of% @List.reverse_cons:=@List.reverse_cons
theorem zCH:type_of% @List.set_append_right:=@List.set_append_right
theorem zCg:type_of% @List.size_toArray:=@List.size_toArray
theorem zAJ:type_of% @List.take_add_one:=@List.take_add_one
theorem zBn:type_of% @List.take_append_drop:=@List.take_append_drop
theorem zBc:type_of% @List.take_append_of_le_length:=@List.take_append_of_le_length
theorem zBx:type_of% @List.take_length:=@List.take_length
theorem zAs:type_of% @List.take_of_length_le:=@List.take_of_length_le
theorem zB0:type_of% @List.take_succ_cons:=@List.take_succ_cons
theorem zC0:type_of% @List.take_take:=@List.take_take
theorem zBH:type_of% @List.toList_toArray:=@List.toList_toArray
theorem zCB:type_of% @Nat.add_sub_cancel_left:=@Nat.add_sub_cancel_left
theorem zAu:type_of% @Nat.add_zero:=@Nat.add_zero
theorem zBV:type_of% @Nat.beq_refl:=@Nat.beq_refl
theorem zA2:type_of% @Nat.eq_of_beq_eq_true:=@Nat.eq_of_beq_eq_true
theorem zC4:type_of% @Nat.le_of_ble_eq_true:=@Nat.le_of_ble_eq_true
theorem zAi:type_of% @Nat.le_refl:=@Nat.le_refl
theorem zBm:type_of% @Nat.le_trans:=@Nat.le_trans
theorem zAW:type_of% @Nat.lt_of_lt_of_le:=@Nat.lt_of_lt_of_le
theorem zBD:type_of% @Nat.min_eq_left:=@Nat.min_eq_left
theorem zBB:type_of% @Nat.mul_le_mul_right:=@Nat.mul_le_mul_right
theorem zCA:type_of% @Nat.mul_one:=@Nat.mul_one
theorem zB3:type_of% @Nat.pow_le_pow_right:=@Nat.pow_le_pow_right
theorem zAh:type_of% @Nat.zero_add:=@Nat.zero_add
theorem zAz:type_of% @Nat.zero_le:=@Nat.zero_le
theorem zAT:type_of% @Option.bind_some:=@Option.bind_some
theorem zB1:type_of% @Option.isSome_iff_exists:=@Option.isSome_iff_exists
theorem zBu:type_of% @Option.map_eq_some_iff:=@Option.map_eq_some_iff
theorem zAO:type_of% @Option.map_some:=@Option.map_some
theorem zAF:type_of% @Option.some.inj:=@Option.some.inj
theorem zAk:type_of% @Option.some.injEq:=@Option.some.injEq
abbrev zAw:=Array Obj
abbrev zAn:=Value->zAw->Prop
abbrev zAY:=Nat->Prop
abbrev zAK:Nat->Prop:=λ_=>False
def zFu (H H':zAw):Prop:=∀ (i:Nat) (ds:Option (List Deferred)),H[i]? = some (Obj.deferred ds)->H'[i]? = some (Obj.deferred ds)
theorem zFu.rfl' {H:zAw}:zFu H H:=λ_ _ h=>h
theorem zFu.trans {a b c:zAw}(h:zFu a b)(k:zFu b c):zFu a c:=λi ds hi=>k i ds (h i ds hi)
theorem zFu.push {H:zAw}{o:Obj}:zFu H (H.push o):=λi ds h=>by
  have:=(zA8.1 h).1
  rw[zB4,if_neg (by omega)];exact h
theorem zFu.set {H:zAw}{b:Nat}{c c':Array Value}{T T':TypeId}{f f':Nat×Nat}(hb:H[b]? = some (.cells c T f)):zFu H (H.setIfInBounds b (.cells c' T' f')):=λi ds h=>by
  rw[zAD]
  split
  · rename_i e;subst e;rw[hb]at h;cases h
  · exact h
structure zIU (w w':World):Prop where
  os:w'.os=w.os
  tape:w'.tape=w.tape
  output:w'.output=w.output
  solid:zFu w.heap w'.heap
theorem zIU.rfl' (w:World):zIU w w:=⟨rfl,rfl,rfl,zFu.rfl'⟩
theorem zIU.trans {a b c:World}(h:zIU a b)(k:zIU b c):zIU a c :=
  ⟨k.os.trans h.os,k.tape.trans h.tape,k.output.trans h.output,h.solid.trans k.solid⟩
def zAA (P:Program)(f:FuncId)(args:List Value)(H:zAw)(R:zAn):Prop :=
  ∀ w:World,w.heap=H->Calls P f args.toArray w λe w'=>∃ v,e = .returned v/\zIU w w'/\R v w'.heap
theorem zAA.mono {P:Program}{f:FuncId}{args:List Value}{H:zAw}{R R':zAn}(h:zAA P f args H R)(k:∀ v h,R v h->R' v h):zAA P f args H R' :=
  λw hw=>(h w hw).mono λ_ _ ⟨v,e,s,r⟩=>⟨v,e,s,k _ _ r⟩
def zSj (P:Program)(l:Nat)(args:List Value)(H:zAw)(R:zAn):Prop :=
  ∀ w:World,w.heap=H->∃ f tmps assign body,(Instr.yield l args.toArray).run P w = .ok (.round l f tmps assign body) w /\
    RoundIn Fence.wide 0 P l f tmps assign body w λe w'=>∃ v,e = .returned v/\zIU w w'/\R v w'.heap
theorem zSj.mono {P:Program}{l:Nat}{args:List Value}{H:zAw}{R R':zAn}(h:zSj P l args H R)(k:∀ v h,R v h->R' v h):zSj P l args H R':=λw hw =>
  let ⟨f,t,a,b,e,r⟩:=h w hw
  ⟨f,t,a,b,e,r.mono λ_ _ ⟨v,e,s,r⟩=>⟨v,e,s,k _ _ r⟩⟩
abbrev Env:=Nat->Value
def Env.put (e:Env)(d:Option Nat)(v:Value):Env :=
  match d with
  | some d=>λi=>bif Nat.beq i d then v else e i
  | none=>e
def ev (e:Env):Operand->Value
  | .tmp t=>e t
  | .const v=>v
  | .global g => .pointer (some ⟨g,0,none⟩)
  | .func f => .func (.func f) #[] #[]
def Mpu (o:Option Value)(k:Value->Prop):Prop:=∃ v,o=some v/\k v
def Mwr (o:Option zAw)(k:zAw->Prop):Prop:=∃ h,o=some h/\k h
def zDy (H:zAw)(T:TypeId)(c:Option (Array Value))(k:zAn):Prop :=
  ∃ cs,c=some cs/\k (.pointer (some ⟨H.size,0,none⟩)) (H.push (.cells cs T (0,0)))
def zA3 (P:Program)(f:FuncId)(args:List Value)(H:zAw)(k:zAn):Prop:=zAA P f args H k
def zOp (P:Program)(f:FuncId):Bool:=match P.funcs[f]? with
  | some fn=>fn.body.isSome&&fn.name != "runtime.NumGoroutine"
  | none=>false
def zDz (P:Program)(fv:Value)(args:List Value)(H:zAw)(k:zAn):Prop :=
  (∃ f fi ca,fv = .func (.func f) fi ca/\zOp P f=true/\zAA P f (fi.toList++args++ca.toList) H k) \/
  ∃ l fi ca,fv = .func (.yield l) fi ca/\zSj P l (fi.toList++args) H k
theorem zDz.mono {P:Program}{fv:Value}{args:List Value}{H:zAw}{R R':zAn}(h:zDz P fv args H R)(k:∀ v h,R v h->R' v h):zDz P fv args H R':=by
  rcases h with ⟨f,fi,ca,e,b,h⟩|⟨l,fi,ca,e,h⟩
  · exact .inl ⟨f,fi,ca,e,b,h.mono k⟩
  · exact .inr ⟨l,fi,ca,e,h.mono k⟩
def zPf (P:Program)(s:Sem Value)(H:zAw)(k:zAn):Prop :=
  ∀ w:World,w.heap=H->∃ v w',s.run P w = .ok v w'/\zIU w w'/\k v w'.heap
def Msu (P:Program)(s:Sem Unit)(H:zAw)(k:zAn):Prop :=
  ∀ w:World,w.heap=H->∃ w',s.run P w = .ok () w'/\zIU w w'/\k undef w'.heap
def zZ1 (P:Program)(f:FuncId):Option (Array Value->Sem Value):=match P.funcs[f]? with
  | some fn=>bif fn.body.isNone&&(fn.name != "runtime.NumGoroutine")&&(Extern.findNext fn).isNone then Extern.find fn else none
  | none=>none
def xtV (P:Program)(f:FuncId)(args:Array Value):Sem Value:=match zZ1 P f with
  | some e=>e args
  | none=>stuck "no row"
def usd:Value->Option Value
  | .slice none _ _=>some (.pointer none)
  | .slice (some a) _ c=>if c≠0 then some (.pointer (some a)) else none
  | _=>none
def Ext (H H':zAw):Prop:=H.size<=H'.size/\∀ i,i<H.size->H'[i]? = H[i]?
def zAhl (P:Program)(f:FuncId)(args:List Value)(H:zAw)(k:zAn):Prop:=zAA P f args H λv h=>Ext H h/\k v h
def Mif (c:Value)(want:Bool)(yes no:Prop):Prop:=(∃ b,c = .bool b/\(b=want->yes)/\(b=(!want)->no))\/((∀ b,c ≠ .bool b)/\no)
def Mcd (c:Value)(yes no:Prop):Prop:=∃ b,c = .bool b/\(b=true->yes)/\(b=false->no)
def zTi (P:Program)(o:Oper)(ρ:Operand->Value)(H:zAw)(k:zAn):Prop :=
  ∀ w:World,w.heap=H->∃ n w',(execOp ρ o).run P w = .ok n w'/\zIU w w' /\
    ((∃ v,n = .value v/\k v w'.heap)\/(n = .skip/\k undef w'.heap))
def ld1 (H:zAw):Value->Option Value
  | .pointer (some ⟨b,o,none⟩)=>match H[b]? with
    | some (.cells c _ _)=>c[o]?
    | _=>none
  | _=>none
def ldN (n:Nat)(H:zAw):Value->Option Value
  | .pointer (some ⟨b,o,none⟩)=>match H[b]? with
    | some (.cells c _ _)=>if o+n<=c.size then some (.agg (c.extract o (o+n))) else none
    | _=>none
  | _=>none
def spl (c:Array Value)(o:Nat)(vs:Array Value):Array Value:=(c.toList.take o++vs.toList++c.toList.drop (o+vs.size)).toArray
def zTw (f:Nat×Nat)(o n:Nat):Bool:=decide (f.2<=o) || decide (o+n<=f.1) || decide (f.2<=f.1)
def stA (H:zAw)(b o:Nat)(vs:Array Value):Option zAw :=
  match H[b]? with
  | some (.cells c T f)=>if o+vs.size<=c.size/\zTw f o vs.size=true/\vs.all (·.oneCell')=true then some (H.setIfInBounds b (.cells (spl c o vs) T f)) else none
  | _=>none
def st1 (H:zAw)(p v:Value):Option zAw :=
  match p with
  | .pointer (some ⟨b,o,none⟩)=>match H[b]? with
    | some (.cells c T f)=>if o<c.size/\zTw f o 1=true/\v.oneCell'=true then some (H.setIfInBounds b (.cells (c.setIfInBounds o v) T f)) else none
    | _=>none
  | _=>none
def stN (n:Nat)(H:zAw)(p v:Value):Option zAw :=
  match p,v with
  | .pointer (some ⟨b,o,none⟩),.agg vs=>if vs.size=n then stA H b o vs else none
  | _,_=>none
def nck:Value->Option Value
  | .pointer (some a)=>some (.pointer (some a))
  | .func (.func f) a b=>some (.func (.func f) a b)
  | _=>none
def fld (off:Nat):Value->Option Value
  | .pointer (some ⟨b,o,none⟩)=>some (.pointer (some ⟨b,o+off,none⟩))
  | _=>none
def zBy:Value->Value->Value->Option Value
  | .bool c,a,b=>some (if c then a else b)
  | _,_,_=>none
def zUe (agg:Bool)(n off:Nat):Value->Option Value
  | .agg cs=>if agg then some (.agg (cs.extract off (off+n))) else cs[off]?
  | _=>none
def ixS (size:Nat):Value->Value->Option Value
  | .slice (some ⟨b,o,none⟩) len _,.int _ i=>if 0<=i/\i<len then some (.pointer (some ⟨b,o+i.toNat*size,none⟩)) else none
  | _,_=>none
def ixA (len size:Nat):Value->Value->Option Value
  | .pointer (some ⟨b,o,none⟩),.int _ i=>if 0<=i/\i<len then some (.pointer (some ⟨b,o+i.toNat*size,none⟩)) else none
  | _,_=>none
def ixT:Value->Value->Option Value
  | .string s,.int _ i=>if 0<=i then (s[i.toNat]?).map λb => .int .u8 b.toNat else none
  | _,_=>none
def ixV (len:Nat)(agg:Bool)(size:Nat):Value->Value->Option Value
  | .agg cs,.int _ i=>if 0<=i/\i<len then (if agg then some (.agg (cs.extract (i.toNat*size) (i.toNat*size+size))) else cs[i.toNat*size]?) else none
  | _,_=>none
def zC9 (op:BinOp)(k:IntKind)(a b:Int):Option Value :=
  match op with
  | .add=>some (.int k (k.wrap (a+b)))
  | .sub=>some (.int k (k.wrap (a-b)))
  | .mul=>some (.int k (k.wrap (a*b)))
  | .quo=>if b=0 then none else some (.int k (k.wrap (a.tdiv b)))
  | .rem=>if b=0 then none else some (.int k (a.tmod b))
  | .and=>some (.int k (k.wrap (BitVec.ofInt k.bits a &&& BitVec.ofInt k.bits b).toNat))
  | .or=>some (.int k (k.wrap (BitVec.ofInt k.bits a ||| BitVec.ofInt k.bits b).toNat))
  | .xor=>some (.int k (k.wrap (BitVec.ofInt k.bits a ^^^ BitVec.ofInt k.bits b).toNat))
  | .andNot=>some (.int k (k.wrap (BitVec.ofInt k.bits a &&& ~~~BitVec.ofInt k.bits b).toNat))
  | .eql=>some (.bool (a == b))
  | .neq=>some (.bool (a != b))
  | .lss=>some (.bool (decide (a<b)))
  | .leq=>some (.bool (decide (a<=b)))
  | .gtr=>some (.bool (decide (a > b)))
  | .geq=>some (.bool (decide (a>=b)))
  | .shl=>if b<0 then none else some (.int k (k.wrap (a*2 ^ (min b.toNat k.bits))))
  | .shr=>if b<0 then none else some (.int k (a.fdiv (2 ^ (min b.toNat k.bits))))
def zR1 (op:BinOp)(x y:ByteArray):Option Value :=
  match op with
  | .add=>if ((x.size+y.size:Nat):Int) > IntKind.i64.max then none else some (.string (x++y))
  | .eql=>some (.bool (x.toList == y.toList))
  | .neq=>some (.bool !(x.toList == y.toList))
  | .lss=>some (.bool (Op.bytesLess x.toList y.toList))
  | .leq=>some (.bool (Op.bytesLess x.toList y.toList || x.toList == y.toList))
  | .gtr=>some (.bool !(Op.bytesLess x.toList y.toList || x.toList == y.toList))
  | .geq=>some (.bool !(Op.bytesLess x.toList y.toList))
  | _=>none
def zM5:Nat->Value->Value->Option Bool
  | 0,.int k a,.int k' b=>if k=k' then some (a == b) else none
  | 1,.bool a,.bool b=>some (a == b)
  | 2,.string a,.string b=>some (a.toList == b.toList)
  | _,_,_=>none
def zCG:List Nat->List Value->List Value->Option Bool
  | [],[],[]=>some true
  | k::ks,a::as,b::bs=>match zM5 k a b,zCG ks as bs with
    | some x,some y=>some (x&&y)
    | _,_=>none
  | _,_,_=>none
inductive EqK where
  | no|bool|ptr|slc|fn|flat (ks:List Nat)
  | ifc (f:TypeId->Bool) (lit:Bool)
def eqV:EqK->Value->Value->Option Bool
  | .bool,.bool a,.bool b=>some (a == b)
  | .ptr,.pointer none,.pointer b=>some b.isNone
  | .ptr,.pointer (some _),.pointer none=>some false
  | .ptr,.pointer (some a),.pointer (some b)=>if a=b then some true else none
  | .slc,.slice none _ _,.slice b _ _=>some b.isNone
  | .slc,.slice (some _) _ _,.slice none _ _=>some false
  | .fn,.nilFunc,.nilFunc=>some true
  | .fn,.nilFunc,.func _ _ _=>some false
  | .fn,.func _ _ _,.nilFunc=>some false
  | .flat ks,.agg xs,.agg ys=>zCG ks xs.toList ys.toList
  | .ifc _ lit,.nilIface,.nilIface=>bif lit then some true else none
  | .ifc _ _,.nilIface,.iface _ _=>some false
  | .ifc _ _,.iface _ _,.nilIface=>some false
  | .ifc f _,.iface tx (.int k a),.iface ty (.int k' b)=>bif Nat.beq tx ty then (bif f tx then (if k=k' then some (a == b) else none) else none) else some false
  | .ifc _ _,.iface tx _,.iface ty _=>bif Nat.beq tx ty then none else some false
  | _,_,_=>none
def zAB (q:EqK)(op:BinOp)(x y:Value):Option Value :=
  match x,y with
  | .int k a,.int k' b=>if k=k' then zC9 op k a b else (match op with | .shl=>zC9 .shl k a b | .shr=>zC9 .shr k a b|_=>none)
  | .string a,.string b=>zR1 op a b
  | x,y=>match op with
    | .eql=>(eqV q x y).map .bool
    | .neq=>(eqV q x y).map λb => .bool (!b)
    | _=>none
def unV (op:UnOp):Value->Option Value
  | .int k n=>match op with
    | .neg=>some (.int k (k.wrap (0-n)))
    | .xor=>some (.int k (k.wrap (BitVec.ofInt k.bits (if k.signed then -1 else k.max) ^^^ BitVec.ofInt k.bits n).toNat))
    | _=>none
  | .bool b=>match op with
    | .not=>some (.bool (!b))
    | _=>none
  | _=>none
def cvI (k:IntKind):Value->Option Value
  | .int _ n=>some (.int k (k.wrap n))
  | _=>none
def zLd:Value->Option Value
  | .string s=>some (.int .i64 s.size)
  | _=>none
def zDA:Value->Option Value
  | .slice _ n _=>some (.int .i64 n)
  | _=>none
def zAeh:Value->Option Value
  | .slice _ _ n=>some (.int .i64 n)
  | _=>none
def bnd (d:Nat)(top:Nat):Option Value->Option Nat
  | none=>some d
  | some (.int _ i)=>if 0<=i/\i<=top then some i.toNat else none
  | some _=>none
def zMj (len cap:Nat)(low high max:Option Value):Option (Nat×Nat×Nat) :=
  (bnd cap cap max).bind λm=>(bnd len m high).bind λh=>(bnd 0 h low).map λl=>(l,h,m)
def slS (size:Nat)(x:Value)(low high max:Option Value):Option Value :=
  match x with
  | .slice a len cap=>(if max.isSome&&high.isNone then none else zMj len cap low high max).bind λ(l,h,m) =>
      match a with
      | none=>some (.slice none (h-l) (m-l))
      | some ⟨b,o,none⟩=>some (.slice (some ⟨b,if m=l then o else o+l*size,none⟩) (h-l) (m-l))
      | some a=>if l=0 then some (.slice (some a) h m) else none
  | _=>none
def slA (n size:Nat)(x:Value)(low high max:Option Value):Option Value :=
  match x with
  | .pointer (some ⟨b,o,none⟩)=>(if max.isSome&&high.isNone then none else zMj n n low high max).map λ(l,h,m) =>
      .slice (some ⟨b,if m=l then o else o+l*size,none⟩) (h-l) (m-l)
  | _=>none
def slT (x:Value)(low high:Option Value):Option Value :=
  match x with
  | .string s=>(zMj s.size s.size low high none).map λ(l,h,_) => .string (s.extract l h)
  | _=>none
def zE3 (i:Nat):Value->Option Value
  | .tuple vs=>vs[i]?
  | _=>none
def zEi (size:Nat)(H:zAw):Value->Option (Nat×Array Value)
  | .slice a n _=>if n=0 then some (0,#[]) else match a with
    | some ⟨b,o,none⟩=>match H[b]? with
      | some (.cells c _ _)=>if o+n*size<=c.size then some (n,c.extract o (o+n*size)) else none
      | _=>none
    | _=>none
  | .string s=>if size=1 then some (s.size,s.data.map λb => .int .u8 b.toNat) else none
  | _=>none
def zKf (T:TypeId)(size bytes:Nat)(H:zAw)(s x:Value)(k:zAn):Prop :=
  ∃ base len cap n new,s = .slice base len cap/\zEi size H x=some (n,new)/\new.all (·.oneCell')=true /\
    (len+n<=cap->match base with
      | none=>k (.slice none (len+n) cap) H
      | some ⟨b,o,none⟩=>Mwr (stA H b (o+len*size) new) λh=>k (.slice base (len+n) cap) h
      | some _=>False) /\
    (cap<len+n->(len+n)*bytes<=140737488355328/\0<bytes/\∃ old,zEi size H (.slice base len cap)=some (len,old) /\
      ∀ cap' rest,len+n<=cap'->cap'<9223372036854775808->rest.size=(cap' - (len+n))*size ->
        k (.slice (some ⟨H.size,0,none⟩) (len+n) cap') (H.push (.cells (old++new++rest) T (0,0))))
def zQU (z:Array Value)(n:Nat):Array Value:=(Array.range n).map λi=>z[i % z.size]!
def zAcp (T:TypeId)(size bytes:Nat)(H:zAw)(s x:Value)(z:Option (Array Value))(k:zAn):Prop :=
  ∃ base len cap kx n zc,s = .slice base len cap/\x = .int kx (n:Nat)/\n*bytes<=140737488355328/\n<9223372036854775808/\z=some zc/\(zQU zc (n*size)).all (·.oneCell')=true /\
    (len+n<=cap->match base with
      | none=>k (.slice none (len+n) cap) H
      | some ⟨b,o,none⟩=>Mwr (stA H b (o+len*size) (zQU zc (n*size))) λh=>k (.slice base (len+n) cap) h
      | some _=>False) /\
    (cap<len+n->(len+n)*bytes<=140737488355328/\0<bytes/\∃ old,zEi size H (.slice base len cap)=some (len,old) /\
      ∀ cap' rest,len+n<=cap'->cap'<9223372036854775808->rest.size=(cap' - (len+n))*size ->
        k (.slice (some ⟨H.size,0,none⟩) (len+n) cap') (H.push (.cells (old++zQU zc (n*size)++rest) T (0,0))))
def zPF (size:Nat)(H:zAw)(d s:Value)(k:zAn):Prop :=
  ∃ n new base len cap,zEi size H s=some (n,new)/\d = .slice base len cap /\
    match base with
      | none=>k (.int .i64 (Nat.min n len)) H
      | some ⟨b,o,none⟩=>Mwr (stA H b o (new.extract 0 (Nat.min n len*size))) λh=>k (.int .i64 (Nat.min n len)) h
      | some _=>False
def bytesOf:List Value->Option (List UInt8)
  | []=>some []
  | .int .u8 n::r=>(bytesOf r).map (UInt8.ofNat n.toNat :: ·)
  | _=>none
def b2s (H:zAw)(v:Value):Option Value :=
  match v with
  | .slice _ _ _=>(zEi 1 H v).bind λ(_,c)=>(bytesOf c.toList).map λl => .string ⟨l.toArray⟩
  | _=>none
def zZL (T:TypeId)(H:zAw)(s:Value)(k:zAn):Prop :=
  ∃ str,s = .string str/\str.size<9223372036854775808/\∀ cap,str.size<=cap->cap<9223372036854775808 ->
    k (.slice (some ⟨H.size,0,none⟩) str.size cap) (H.push (.cells ((str.data.map λb=>Value.int .u8 b.toNat)++Array.replicate (cap-str.size) (.int .u8 0)) T (cap,cap+1)))
def zPG (place:Nat->Option (Nat×Nat)):Array Value->List (Nat×Value)->Option (Array Value)
  | cells,[]=>some cells
  | cells,(i,v)::r=>match place i with
    | some (off,size)=>if v.cells.size=size/\off+size<=cells.size then zPG place (spl cells off v.cells) r else none
    | none=>none
def zAcy (op:Bool):List Value->Option Value
  | [.int k a,.int _ b]=>some (.int k (if op then (if b<a then b else a) else (if a<b then b else a)))
  | _=>none
def zL7 (P:Program)(T:TypeId):Bool:=match P.underlying T with
  | some (.struct _)=>true
  | some (.array _ _)=>true
  | _=>false
def zZM (P:Program)(T:TypeId):Bool:=(P.underlying T).isSome&&Nat.beq (P.cellsOf T) 1 && !zL7 P T
def zWs (P:Program)(T:TypeId):Bool:=(P.info? T).isSome
def zAfk (P:Program)(T:TypeId):Bool:=(P.underlying T).isSome
def zBF (P:Program)(T:TypeId):Option (Array Value):=(P.info? T).bind λi=>i.zero.map Value.cells
def zQY (P:Program)(good:TypeId->Option (List Nat)):Nat->List Field->Option (List Nat)
  | _,[]=>some []
  | o,f::fs=>if f.offset == o&&f.name != "_" then (match good f.type with
      | some ks=>if ks.length == P.cellsOf f.type then (zQY P good (o+P.cellsOf f.type) fs).map (ks ++ ·) else none
      | none=>none) else none
def zOq (P:Program):Nat->TypeId->Option (List Nat)
  | 0,_=>none
  | d+1,T=>match P.underlying T with
    | some (.int _)=>some [0]
    | some .bool=>some [1]
    | some .string=>some [2]
    | some (.struct fs)=>if P.stoodInHeld T then none else zQY P (zOq P d) 0 fs.toList
    | some (.array n e)=>match zOq P d e with
      | some ks=>if ks.length == P.cellsOf e then some (List.replicate n ks).flatten else none
      | none=>none
    | _=>none
def eqK (P:Program)(T:TypeId):EqK:=match P.underlying T with
  | some .bool => .bool
  | some (.pointer e)=>if (P.info? e).isSome then .ptr else .no
  | some (.slice _) => .slc
  | some (.func _ _ _) => .fn
  | some (.struct _)=>if P.eqGuardType P.depth T then .no else (match zOq P 9 T with|some ks => .flat ks|none => .no)
  | some (.array _ _)=>if P.eqGuardType P.depth T then .no else (match zOq P 9 T with|some ks => .flat ks|none => .no)
  | _ => .no
def zUf (P:Program)(T:TypeId):Bool:=match P.underlying T with
  | some (.int _)=>(match P.info? T with|some i=>i.comparable|none=>false)
  | _=>false
def isC:Operand->Bool
  | .const _=>true
  | _=>false
def eqQ (P:Program)(T:TypeId)(x y:Operand):EqK:=match P.underlying T with
  | some (.interface _) => .ifc (zUf P) (isC x || isC y)
  | _=>eqK P T
def zZN (P:Program)(T:TypeId):Bool:=match zBF P T with
  | some z=>Nat.beq z.size (P.cellsOf T)
  | none=>false
def zCP (P:Program)(T:TypeId)(parts:List (Nat×Value)):Option Value :=
  match P.underlying T with
  | some (.struct fs)=>match fs.toList.mapM (λf=>(P.info? f.type).map λi=>(f.offset,i.size)) with
    | some places=>(zBF P T).bind λz=>(zPG (places.toArray[·]?) z parts).map .agg
    | none=>none
  | some (.array _ e)=>match P.info? e with
    | some i=>(zBF P T).bind λz=>(zPG (λj=>some (j*i.size,i.size)) z parts).map .agg
    | none=>none
  | _=>none
def zID (P:Program)(e:TypeId)(len:Nat)(parts:List (Nat×Value)):Option (Array Value) :=
  if P.cellsOf e=0\/len*P.cellsOf e > 16777216 then none else
  (zBF P e).bind λz=>if z.size=P.cellsOf e then zPG (λi=>some (i*P.cellsOf e,P.cellsOf e)) (zQU z (len*P.cellsOf e)) parts else none
def zFv (H:zAw)(T:TypeId)(len:Nat)(c:Option (Array Value))(k:zAn):Prop :=
  ∃ cs,c=some cs/\k (.slice (some ⟨H.size,0,none⟩) len len) (H.push (.cells cs T (0,0)))
def zAkl (P:Program)(H:zAw)(e:TypeId)(l c:Value)(k:zAn):Prop :=
  ∃ kl kc n m z,l = .int kl (n:Nat)/\c = .int kc (m:Nat)/\n<=m/\m*P.bytesOf e<=281474976710656/\m<=9223372036854775807/\zBF P e=some z/\(P.info? e).isSome=true /\
    k (.slice (some ⟨H.size,0,none⟩) n m) (H.push (.cells (zQU z (m*P.cellsOf e)) e (0,0)))
def mkI (P:Program)(T:TypeId)(v:Value):Option Value:=match P.underlying T with
  | some (.interface _)=>none
  | some _=>some (.iface T v)
  | none=>none
inductive XR where
  | val (v:Value)
  | pu (r:Option Value)
  | rd (r:Option Value)
  | wr (r:Option zAw)
  | nw (T:TypeId) (c:Option (Array Value))
  | nws (T:TypeId) (len:Nat) (c:Option (Array Value))
  | ap (T:TypeId) (size bytes:Nat) (s x:Value)
  | az (T:TypeId) (size bytes:Nat) (s x:Value) (z:Option (Array Value))
  | cp (size:Nat) (d s:Value)
  | sb (T:TypeId) (s:Value)
  | cl (f:FuncId) (args:List Value)
  | cv (fv:Value) (args:List Value)
  | mk (T:TypeId) (l c:Value)
  | sm (s:Sem Value)
  | su (s:Sem Unit)
  | raw
  | no
def idS:Value->Option Value
  | .string s=>some (.string s)
  | _=>none
def opR (P:Program)(o:Op)(ρ:Operand->Value)(H:zAw):XR :=
  match o with
  | .move x => .val (ρ x)
  | .assign x => .val (ρ x)
  | .pick c a b => .pu (zBy (ρ c) (ρ a) (ρ b))
  | .alloc T => .nw T (zBF P T)
  | .box T x => .nw T (some (ρ x).cells)
  | .build T parts => .pu (zCP P T (parts.toList.map λp=>(p.1,ρ p.2)))
  | .buildSlice T len parts=>match P.underlying T with
    | some (.slice e) => .nws e len (zID P e len (parts.toList.map λp=>(p.1,ρ p.2)))
    | _ => .no
  | .load T a=>bif zL7 P T then .rd (ldN (P.cellsOf T) H (ρ a)) else bif zZM P T then .rd (ld1 H (ρ a)) else .no
  | .store T a x=>bif zL7 P T then .wr (stN (P.cellsOf T) H (ρ a) (ρ x)) else bif zZM P T then .wr (st1 H (ρ a) (ρ x)) else .no
  | .nilCheck x => .pu (nck (ρ x))
  | .binOp op T x y _ => .pu (zAB (eqQ P T x y) op (ρ x) (ρ y))
  | .unOp op _ x => .pu (unV op (ρ x))
  | .convert s d x=>match P.underlying s,P.underlying d with
    | some (.int _),some (.int kd) => .pu (cvI kd (ρ x))
    | some (.slice e),some .string=>match P.underlying e with
      | some (.int .u8) => .rd (b2s H (ρ x))
      | _ => .no
    | some .string,some (.slice e)=>match P.underlying e with
      | some (.int .u8) => .sb e (ρ x)
      | _ => .no
    | some .string,some .string => .pu (idS (ρ x))
    | some (.pointer _),some .unsafePointer => .sm (convert s d (ρ x))
    | some .unsafePointer,some (.pointer _) => .sm (convert s d (ρ x))
    | _,_ => .raw
  | .makeFunc fn a b => .val (.func fn (a.map ρ) (b.map ρ))
  | .makeInterface T x => .pu (mkI P T (ρ x))
  | .makeSlice T l c=>match P.underlying T with
    | some (.slice e) => .mk e (ρ l) (ρ c)
    | _ => .no
  | .panic _ => .no
  | .slice T x lo hi mx=>match P.underlying T with
    | some (.slice e)=>bif zWs P e then .pu (slS (P.cellsOf e) (ρ x) (lo.map ρ) (hi.map ρ) (mx.map ρ)) else .no
    | some (.array n e)=>bif zWs P e then .pu (slA n (P.cellsOf e) (ρ x) (lo.map ρ) (hi.map ρ) (mx.map ρ)) else .no
    | some .string=>bif mx.isNone then .pu (slT (ρ x) (lo.map ρ) (hi.map ρ)) else .no
    | _ => .raw
  | .fieldAddr S x f=>match P.underlying S with
    | some (.struct fs)=>match fs[f]? with
      | some fd=>bif Nat.beq (P.cellsOf fd.type) 0 then .raw else .pu (fld fd.offset (ρ x))
      | none => .no
    | _ => .no
  | .field S x f=>match P.underlying S with
    | some (.struct fs)=>match fs[f]? with
      | some fd=>bif zAfk P fd.type then .pu (zUe (zL7 P fd.type) (P.cellsOf fd.type) fd.offset (ρ x)) else .no
      | none => .no
    | _ => .no
  | .indexAddr T x i=>match P.underlying T with
    | some (.slice e)=>bif zWs P e then .pu (ixS (P.cellsOf e) (ρ x) (ρ i)) else .no
    | some (.array n e)=>bif zWs P e then .pu (ixA n (P.cellsOf e) (ρ x) (ρ i)) else .no
    | _ => .no
  | .index T x i=>match P.underlying T with
    | some .string => .pu (ixT (ρ x) (ρ i))
    | some (.array n e)=>bif zAfk P e then .pu (ixV n (zL7 P e) (P.cellsOf e) (ρ x) (ρ i)) else .no
    | _ => .no
  | .extract x i => .pu (zE3 i (ρ x))
  | .makeMap t r => .sm (Instr.makeMap t (r.map ρ))
  | .lookup t x i ok => .sm (Instr.lookup t (ρ x) (ρ i) ok)
  | .mapUpdate t m k x => .su (Instr.mapUpdate t (ρ m) (ρ k) (ρ x))
  | .range T x => .sm (Instr.range T (ρ x))
  | .next it s => .sm (Instr.next (ρ it) s 0)
  | .entry it => .sm (Instr.entry (ρ it))
  | .insert t m k x => .su (Instr.mapUpdate t (ρ m) (ρ k) (ρ x))
  | .call c=>match c.callee with
    | .value x=>match x with
      | .func f=>bif zOp P f then .cl f (c.args.toList.map ρ) else bif (zZ1 P f).isSome then .sm (xtV P f (c.args.toList.map ρ).toArray) else .raw
      | .tmp t => .cv (ρ (.tmp t)) (c.args.toList.map ρ)
      | .const v => .cv (ρ (.const v)) (c.args.toList.map ρ)
      | .global _ => .raw
    | .builtin .len=>match c.argTypes.toList,c.args.toList with
      | [T],[x]=>match P.underlying T with
        | some .string => .pu (zLd (ρ x))
        | some (.slice _) => .pu (zDA (ρ x))
        | some (.array n _) => .val (.int .i64 n)
        | some (.map _ _) => .sm (Builtin.len_ #[T] 0 #[ρ x])
        | _ => .raw
      | _,_ => .raw
    | .builtin .cap=>match c.argTypes.toList,c.args.toList with
      | [T],[x]=>match P.underlying T with
        | some (.slice _) => .pu (zAeh (ρ x))
        | _ => .raw
      | _,_ => .raw
    | .builtin .append=>match c.argTypes.toList,c.args.toList with
      | [T,U],[s,x]=>match P.underlying T,P.underlying U with
        | some (.slice e),some (.slice _)=>bif zZN P e then .ap e (P.cellsOf e) (P.bytesOf e) (ρ s) (ρ x) else .no
        | some (.slice e),some .string=>bif zZN P e then .ap e (P.cellsOf e) (P.bytesOf e) (ρ s) (ρ x) else .no
        | some (.slice e),some (.int _)=>bif zZN P e then .az e (P.cellsOf e) (P.bytesOf e) (ρ s) (ρ x) (zBF P e) else .no
        | _,_ => .raw
      | _,_ => .raw
    | .builtin .copy=>match c.argTypes.toList,c.args.toList with
      | [T,_],[d,s]=>match P.underlying T with
        | some (.slice e)=>bif zWs P e then .cp (P.cellsOf e) (ρ d) (ρ s) else .no
        | _ => .raw
      | _,_ => .raw
    | .builtin .unsafeSliceData=>match c.args.toList with
      | [x] => .pu (usd (ρ x))
      | _ => .raw
    | .builtin .unsafeString => .sm (Builtin.unsafeString_ c.argTypes 0 (c.args.toList.map ρ).toArray)
    | .builtin .clear => .sm (Builtin.clear_ c.argTypes 0 (c.args.toList.map ρ).toArray)
    | .builtin .delete => .sm (Builtin.delete_ c.argTypes 0 (c.args.toList.map ρ).toArray)
    | .builtin .min => .pu (zAcy true (c.args.toList.map ρ))
    | .builtin .max => .pu (zAcy false (c.args.toList.map ρ))
    | _ => .raw
  | _ => .raw
def opX (P:Program)(q:Bool)(o:Oper)(ρ:Operand->Value)(H:zAw)(k:zAn):Prop :=
  match opR P o.op ρ H with
  | .val v=>k v H
  | .pu r=>Mpu r λv=>k v H
  | .rd r=>Mpu r λv=>k v H
  | .wr r=>Mwr r λh=>k undef h
  | .nw T c=>zDy H T c k
  | .nws T len c=>zFv H T len c k
  | .ap T size bytes s x=>zKf T size bytes H s x k
  | .az T size bytes s x z=>zAcp T size bytes H s x z k
  | .cp size d s=>zPF size H d s k
  | .sb T s=>zZL T H s k
  | .cl f args=>bif q then zAhl P f args H k else zA3 P f args H k
  | .cv fv args=>bif q then zDz P fv args H λv h=>Ext H h/\k v h else zDz P fv args H k
  | .mk e l c=>zAkl P H e l c k
  | .sm s=>zPf P s H k
  | .su s=>Msu P s H k
  | .raw=>zTi P o ρ H k
  | .no=>False
theorem zHV (b o n:Nat):(⟨b,o,none⟩:Addr).add n=⟨b,o+n,none⟩:=by
  unfold Addr.add;split<;>simp_all
theorem zWw {w:World}{b:Nat}{c:Array Value}{T:TypeId}{f:Nat×Nat}(h:w.heap[b]? = some (.cells c T f))(o:Nat):w.cell? ⟨b,o,none⟩=c[o]?:=by
  simp[World.cell?,h]
theorem zIV {P:Program}{T:TypeId}{i:TypeInfo}(h:P.info? T=some i)(w:World):(typeInfo T).run P w = .ok i w:=by
  simp[typeInfo,h]
theorem zCx {P:Program}{T:TypeId}{d:TypeDesc}(h:P.underlying T=some d)(w:World):(underlying T).run P w = .ok d w:=by
  simp[underlying,h]
theorem zP8 {P:Program}{T:TypeId}{d:TypeDesc}(h:P.underlying T=some d):∃ i,P.info? T=some i:=by
  unfold Program.underlying at h
  cases hi:P.info? T with
  | none=>simp[hi]at h
  | some i=>exact⟨i,rfl⟩
theorem zTx {P:Program}{T:TypeId}(h:P.cellsOf T≠0):∃ i,P.info? T=some i/\i.size=P.cellsOf T:=by
  unfold Program.cellsOf at *
  cases hi:P.info? T with
  | none=>simp[hi]at h
  | some i=>exact⟨i,rfl,by simp⟩
theorem zDZ {P:Program}{T:TypeId}{i:TypeInfo}(h:P.info? T=some i)(w:World):(sizeOf T).run P w = .ok (P.cellsOf T) w:=by
  simp[sizeOf,zIV h,Program.cellsOf,h]
theorem zP9 {P:Program}{T:TypeId}{d:TypeDesc}(h:P.underlying T=some d)(w:World):(isAgg T).run P w = .ok (zL7 P T) w:=by
  unfold isAgg zL7
  rw[Sem.run_bind,zCx h w,h]
  cases d<;>simp
theorem zXz {P:Program}{T:TypeId}(h:zL7 P T=true):∃ d,P.underlying T=some d:=by
  unfold zL7 at h
  cases hu:P.underlying T with
  | none=>simp[hu]at h
  | some d=>exact⟨d,rfl⟩
theorem zVb {P:Program}{w:World}{a:Addr}:(loadCells a 0).run P w = .ok #[] w:=run_loadCells_list (P:=P) w a [] (λj v hv=>by cases hv)
theorem zSk {P:Program}{w:World}{b o n:Nat}{c:Array Value}{T:TypeId}{f:Nat×Nat}(h:w.heap[b]? = some (.cells c T f))(hn:o+n<=c.size) :
    (loadCells ⟨b,o,none⟩ n).run P w = .ok (c.extract o (o+n)) w:=by
  have hl:=run_loadCells_list (P:=P) w ⟨b,o,none⟩ (c.extract o (o+n)).toList (λj v hv=>by
    rw[zHV,zWw h]
    have hj:j<n:=by
      have:=(zAP.1 hv).1
      simp at this;omega
    rw[Array.getElem?_toList,Array.getElem?_extract]at hv
    rw[if_pos (by omega)]at hv
    exact hv)
  have e:(c.extract o (o+n)).toList.length=n:=by simp;omega
  rw[e]at hl
  rw[hl]
theorem zXA {P:Program}{b o:Nat}{T:TypeId}{f:Nat×Nat}:∀ (vs:List Value) (i:Nat) (c:Array Value) (w:World),w.heap[b]? = some (.cells c T f)->o+i+vs.length<=c.size ->
    zTw f (o+i) vs.length=true->(∀ v∈vs,v.oneCell'=true) ->
    (storeCells ⟨b,o,none⟩ vs i).run P w = .ok () { w with heap:=w.heap.setIfInBounds b (.cells (c.toList.take (o+i)++vs++c.toList.drop (o+i+vs.length)).toArray T f) }
  | [],i,c,w,hg,_,_,_=>by
    have hb:=(zA8.1 hg)
    obtain⟨hb1,hb2⟩:=hb
    simp only[storeCells,zAS,List.length_nil,zAu,zBn,Array.toArray_toList]
    have:w.heap.setIfInBounds b (.cells c T f)=w.heap:=by
      apply Array.ext_getElem?
      intro k
      rw[zAD]
      split
      · rename_i e;subst e;simp[hb1,hb2]
      · rfl
    rw[this]
    rfl
  | v::rest,i,c,w,hg,hl,hz,h1=>by
    have hi:o+i<c.size:=by simp at hl;omega
    have hb1:=(zA8.1 hg).1
    have hfro:w.frozen? ⟨b,o+i,none⟩=false:=by
      simp only[World.frozen?,hg]
      simp only[zTw,zAZ,zBX,decide_eq_true_eq]at hz
      simp only[Bool.and_eq_false_iff,decide_eq_false_iff_not]
      omega
    have hset:w.setCell ⟨b,o+i,none⟩ v = { w with heap:=w.heap.setIfInBounds b (.cells (c.setIfInBounds (o+i) v) T f) }:=by
      unfold World.setCell
      congr 1
      apply Array.ext_getElem?
      intro k
      rw[Array.getElem?_modify,zAD]
      split
      · rename_i e;subst e;rw[hg];simp[hb1]
      · rfl
    have hst:(store ((⟨b,o,none⟩:Addr).add i) v).run P w = .ok () { w with heap:=w.heap.setIfInBounds b (.cells (c.setIfInBounds (o+i) v) T f) }:=by
      rw[zHV,run_store P w _ v _ (h1 v (by simp)),zWw hg]
      simp[hfro,hset,hi]
    have ih:=zXA (P:=P) (b:=b) (o:=o) (T:=T) (f:=f) rest (i+1) (c.setIfInBounds (o+i) v) { w with heap:=w.heap.setIfInBounds b (.cells (c.setIfInBounds (o+i) v) T f) }
      (by simp[hb1]) (by simp at hl ⊢;omega) (by
        simp only[zTw,zAZ,zBX,decide_eq_true_eq]at hz ⊢
        omega) (λx hx=>h1 x (by simp[hx]))
    have e:=list_seg_step c.toList (o+i) v rest (by simp at hl ⊢;omega)
    have e':List.take (o+(i+1)) (c.setIfInBounds (o+i) v).toList++rest++List.drop (o+(i+1)+rest.length) (c.setIfInBounds (o+i) v).toList =
        List.take (o+i) c.toList++v::rest++List.drop (o+i+(v::rest).length) c.toList:=by
      simpa [zBY,Nat.add_assoc] using e
    simp only[storeCells,Sem.run_bind,hst,Result.andThen_ok,ih,e',Array.setIfInBounds_setIfInBounds]
theorem zOr {P:Program}{o:Oper}{ρ:Operand->Value}{H:zAw}{k:zAn}{v:Value}
    (h:∀ w,w.heap=H->(execOp ρ o).run P w = .ok (.value v) w) (hk:k v H):zTi P o ρ H k :=
  λw hw=>⟨.value v,w,h w hw,zIU.rfl' w,.inl ⟨v,rfl,hw ▸ hk⟩⟩
theorem zTj {P:Program}{o:Oper}{ρ:Operand->Value}{H H':zAw}{k:zAn}{v:Value}
    (h:∀ w,w.heap=H->(execOp ρ o).run P w = .ok (.value v) { w with heap:=H' }) (hk:k v H') (hs:zFu H H'):zTi P o ρ H k :=
  λw hw=>⟨.value v,_,h w hw,⟨rfl,rfl,rfl,by rw[hw];exact hs⟩,.inl ⟨v,rfl,hk⟩⟩
theorem zUg {P:Program}{o:Oper}{ρ:Operand->Value}{H H':zAw}{k:zAn}
    (h:∀ w,w.heap=H->(execOp ρ o).run P w = .ok .skip { w with heap:=H' }) (hk:k undef H') (hs:zFu H H'):zTi P o ρ H k :=
  λw hw=>⟨.skip,_,h w hw,⟨rfl,rfl,rfl,by rw[hw];exact hs⟩,.inr ⟨rfl,hk⟩⟩
theorem zQa {H H':zAw}{b o:Nat}{vs:Array Value}(h:stA H b o vs=some H'):zFu H H':=by
  unfold stA at h
  split at h
  · rename_i hb;split at h
    · cases h;exact zFu.set hb
    · cases h
  · cases h
theorem zZ2 {H H':zAw}{p v:Value}(h:st1 H p v=some H'):zFu H H':=by
  unfold st1 at h
  split at h
  · split at h
    · rename_i hb;split at h
      · cases h;exact zFu.set hb
      · cases h
    · cases h
  · cases h
theorem zZ3 {n:Nat}{H H':zAw}{p v:Value}(h:stN n H p v=some H'):zFu H H':=by
  unfold stN at h
  split at h
  · split at h
    · exact zQa h
    · cases h
  · cases h
theorem zSl {P:Program}{T:TypeId}(h:zZM P T=true):(∃ d,P.underlying T=some d)/\zL7 P T=false/\P.cellsOf T=1:=by
  unfold zZM at h
  simp only[zAm,zB1,zBf]at h
  exact⟨h.1.1,h.2,zA2 h.1.2⟩
theorem zVc {P:Program}{T:TypeId}{p v:Value}{H:zAw}(hT:∃ d,P.underlying T=some d)(ha:zL7 P T=false)(h:ld1 H p=some v)(w:World)(hw:w.heap=H) :
    (Instr.loadAt T p).run P w = .ok v w:=by
  subst hw
  unfold ld1 at h
  split at h
  · rename_i b o
    split at h
    · rename_i c t f hg
      obtain⟨d,hd⟩:=hT
      simp[Instr.loadAt,Instr.sureAddr,loadVar,zP9 hd,ha,zWw hg,h]
    · cases h
  · cases h
theorem zVd {P:Program}{T:TypeId}{p v:Value}{H:zAw}(ha:zL7 P T=true)(h:ldN (P.cellsOf T) H p=some v)(w:World)(hw:w.heap=H) :
    (Instr.loadAt T p).run P w = .ok v w:=by
  subst hw
  unfold ldN at h
  split at h
  · rename_i b o
    split at h
    · rename_i c t f hg
      split at h
      · rename_i hle
        obtain⟨d,hd⟩:=zXz ha
        obtain⟨i,hi⟩:=zP8 hd
        cases h
        simp[Instr.loadAt,Instr.sureAddr,loadVar,zP9 hd,ha,zDZ hi,zSk hg hle]
      · cases h
    · cases h
  · cases h
theorem zYP {P:Program}{T:TypeId}{p v:Value}{H H':zAw}(hs:P.cellsOf T=1)(h:st1 H p v=some H')(w:World)(hw:w.heap=H) :
    (Instr.storeAt T p v).run P w = .ok () { w with heap:=H' }:=by
  subst hw
  obtain⟨i,hi,his⟩:=zTx (P:=P) (T:=T) (by omega)
  unfold st1 at h
  split at h
  · rename_i b o
    split at h
    · rename_i c t f hg
      split at h
      · rename_i hc
        cases h
        have hone:v.cells=#[v]:=by
          have:=hc.2.2
          cases v<;>simp_all [Value.cells,Value.oneCell']
        have hst:=zXA (P:=P) (b:=b) (o:=o) (T:=t) (f:=f) [v] 0 c w hg (by simp;omega) (by simpa using hc.2.1) (by simpa using hc.2.2)
        simp only[Instr.storeAt,Instr.sureAddr,storeVar,hone,Sem.run_bind,Sem.run_pure,Result.andThen_ok,zDZ hi,hs]
        simp only[zCg,zAZ,List.length_nil,ne_eq,not_true_eq_false,if_false,zAh]
        simp only[Sem.run_pure,Result.andThen_ok,hst]
        congr 2
        apply Array.ext_getElem?
        intro k
        rw[zAD,zAD]
        split
        · congr 3
          apply Array.ext'
          have ho:=hc.1
          apply zCI
          intro j
          simp only[zAu,zAZ,List.length_nil,zAh,zBY,List.getElem?_set,zBi,List.getElem?_append,zBe,Array.length_toList,zCd]
          by_cases h1:j<o
          · simp[h1,show o≠j by omega,show min o c.size=o by omega]
          · by_cases h2:j=o
            · subst h2;simp[show min j c.size=j by omega,ho]
            · simp[show min o c.size=o by omega,h1,show o≠j by omega,show j-o≠0 by omega,show ¬ (j-o=0) by omega]
              simp[show o+1+(j-o-1)=j by omega]
        · rfl
      · cases h
    · cases h
  · cases h
theorem zYQ {P:Program}{T:TypeId}{p v:Value}{H H':zAw}(hT:zL7 P T=true)(h:stN (P.cellsOf T) H p v=some H')(w:World)(hw:w.heap=H) :
    (Instr.storeAt T p v).run P w = .ok () { w with heap:=H' }:=by
  subst hw
  obtain⟨d,hd⟩:=zXz hT
  obtain⟨i,hi⟩:=zP8 hd
  unfold stN at h
  split at h
  · rename_i b o vs
    split at h
    · rename_i hsz
      unfold stA at h
      split at h
      · rename_i c t f hg
        split at h
        · rename_i hc
          cases h
          have hst:=zXA (P:=P) (b:=b) (o:=o) (T:=t) (f:=f) vs.toList 0 c w hg (by simp;omega) (by simpa using hc.2.1) (by
            intro v hv
            exact(zBq.1 hc.2.2) v (by simpa using hv))
          simp only[Instr.storeAt,Instr.sureAddr,storeVar,Value.cells,Sem.run_bind,Sem.run_pure,Result.andThen_ok,zDZ hi]
          simp only[ne_eq,hsz,not_true_eq_false,if_false,Sem.run_pure,Result.andThen_ok]
          rw[hst]
          simp[spl,hsz]
        · cases h
      · cases h
    · cases h
  · cases h
section
variable {P:Program} {w:World}
theorem zAcz {c a b v:Value}(h:zBy c a b=some v):(do pure (if <- asBool c then a else b):Sem Value).run P w = .ok v w:=by
  cases c<;>simp[zBy]at h
  subst h
  simp[asBool]
theorem zZ4 {T:TypeId}{cs:Array Value}(h:zBF P T=some cs):(Instr.alloc T true (.tuple #[])).run P w = .ok (.pointer (some ⟨w.heap.size,0,none⟩)) { w with heap:=w.heap.push (.cells cs T (0,0)) }:=by
  unfold zBF at h
  cases hi:P.info? T with
  | none=>simp[hi]at h
  | some i =>
    simp only[hi,zAT]at h
    cases hz:i.zero with
    | none=>simp[hz]at h
    | some z =>
      simp only[hz,zAO,zAk]at h
      subst h
      simp[Instr.alloc,zeroValue,zIV hi,hz,newVar,newRow]
theorem zAcA {T:TypeId}{cs:Array Value}(h:zBF P T=some cs):∃ z,(zeroValue T).run P w = .ok z w/\z.cells=cs:=by
  unfold zBF at h
  cases hi:P.info? T with
  | none=>simp[hi]at h
  | some i =>
    simp only[hi,zAT]at h
    cases hz:i.zero with
    | none=>simp[hz]at h
    | some z =>
      simp only[hz,zAO,zAk]at h
      exact⟨z,by simp[zeroValue,zIV hi,hz],h⟩
theorem zAfl {T:TypeId}{v:Value}:(Instr.box T v).run P w = .ok (.pointer (some ⟨w.heap.size,0,none⟩)) { w with heap:=w.heap.push (.cells v.cells T (0,0)) }:=by
  simp[Instr.box,newVar,newRow]
theorem zAfm {o:Oper}{ρ:Operand->Value}{x:Operand}(ho:o.op = .nilCheck x){v:Value}(h:nck (ρ x)=some v):(execOp ρ o).run P w = .ok (.value v) w:=by
  unfold execOp
  rw[ho]
  simp only[]
  unfold nck at h
  split at h
  · rename_i a e;rw[e];cases h;rfl
  · rename_i f a b e;rw[e];cases h;rfl
  · cases h
theorem zAfn {S f:Nat}{p v:Value}{fs:Array Field}{fd:Field}(hu:P.underlying S=some (.struct fs))(hf:fs[f]? = some fd)(hs:P.cellsOf fd.type≠0)(h:fld fd.offset p=some v) :
    (Instr.fieldAt S p f).run P w = .ok v w:=by
  obtain⟨i,hi,his⟩:=zTx hs
  unfold fld at h
  split at h
  · rename_i b o
    cases h
    have hs':¬ P.cellsOf fd.type=0:=hs
    simp[Instr.fieldAt,zCx hu,hf,Instr.sureAddr,fieldPlace,zDZ hi,hs',zHV]
  · cases h
theorem zR2 {T:TypeId}{d:TypeDesc}(hu:P.underlying T=some d){off:Nat}{cs:Array Value}{v:Value}(h:zUe (zL7 P T) (P.cellsOf T) off (.agg cs)=some v) :
    (part T cs off).run P w = .ok v w:=by
  obtain⟨i,hi⟩:=zP8 hu
  unfold zUe at h
  simp only at h
  unfold part
  cases ha:zL7 P T with
  | true =>
    simp only[ha,if_true,zAk]at h
    simp[zP9 hu,ha,zDZ hi,h]
  | false =>
    simp only[ha,zAb,if_false]at h
    simp[zP9 hu,ha,h]
theorem zAfo {T e:TypeId}(hu:P.underlying T=some (.slice e))(he:∃ i,P.info? e=some i){x i v:Value}(h:ixS (P.cellsOf e) x i=some v) :
    (Instr.indexAt T x i).run P w = .ok v w:=by
  obtain⟨ie,hie⟩:=he
  unfold ixS at h
  split at h
  · rename_i b o len cap k n
    split at h
    · rename_i hc
      cases h
      simp[Instr.indexAt,asIntOf,zCx hu,hc,zDZ hie,zHV]
    · cases h
  · cases h
theorem zAfp {T e:TypeId}{n:Nat}(hu:P.underlying T=some (.array n e))(he:∃ i,P.info? e=some i){x i v:Value}(h:ixA n (P.cellsOf e) x i=some v) :
    (Instr.indexAt T x i).run P w = .ok v w:=by
  obtain⟨ie,hie⟩:=he
  unfold ixA at h
  split at h
  · rename_i b o k n
    split at h
    · rename_i hc
      cases h
      simp[Instr.indexAt,asIntOf,zCx hu,Instr.sureAddr,hc,zDZ hie,zHV]
    · cases h
  · cases h
theorem zAfq {T:TypeId}(hu:P.underlying T=some .string){x i v:Value}(h:ixT x i=some v):(Instr.index T x i).run P w = .ok v w:=by
  unfold ixT at h
  split at h
  · rename_i s k n
    split at h
    · rename_i hn
      cases hs:s[n.toNat]? with
      | none=>simp[hs]at h
      | some b =>
        simp only[hs,zAO,zAk]at h
        simp[Instr.index,asIntOf,zCx hu,hn,hs,h]
    · cases h
  · cases h
theorem zAfr {T e:TypeId}{n:Nat}(hu:P.underlying T=some (.array n e)){d:TypeDesc}(he:P.underlying e=some d){x i v:Value}(h:ixV n (zL7 P e) (P.cellsOf e) x i=some v) :
    (Instr.index T x i).run P w = .ok v w:=by
  obtain⟨ie,hie⟩:=zP8 he
  unfold ixV at h
  split at h
  · rename_i cs k i
    split at h
    · rename_i hc
      have hp:=zR2 (P:=P) (w:=w) he (off:=i.toNat*P.cellsOf e) (cs:=cs) (v:=v) (by unfold zUe;exact h)
      simp[Instr.index,asIntOf,zCx hu,hc,zDZ hie,hp]
    · cases h
  · cases h
theorem zAfs {T:TypeId}{op:BinOp}{k:IntKind}{a b:Int}{v:Value}(h:zC9 op k a b=some v):(binOp op T (.int k a) (.int k b)).run P w = .ok v w:=by
  cases op<;>simp only[zC9,zAk]at h<;>first
    | (subst h;simp[binOp,Op.intArith,Op.intBits,Op.intCmp];done)
    | (split at h
       · cases h
       · rename_i hb
         simp only[zAk]at h
         subst h
         simp[binOp,Op.intDiv,Op.shift,hb])
theorem zVe {T:TypeId}{op:BinOp}{k k':IntKind}{a b:Int}{v:Value}(ho:op = .shl\/op = .shr)(h:zC9 op k a b=some v):(binOp op T (.int k a) (.int k' b)).run P w = .ok v w:=by
  rcases ho with rfl|rfl <;>
  · simp only[zC9]at h
    split at h
    · cases h
    · rename_i hb
      simp only[zAk]at h
      subst h
      simp[binOp,Op.shift,hb]
theorem zAft {T:TypeId}{op:BinOp}{a b:ByteArray}{v:Value}(h:zR1 op a b=some v):(binOp op T (.string a) (.string b)).run P w = .ok v w:=by
  cases op<;>simp only[zR1,zAk]at h<;>first
    | (cases h;done)
    | (subst h;simp[binOp,Op.stringOp];done)
    | (split at h
       · cases h
       · rename_i hb
         simp only[zAk]at h
         subst h
         simp only[binOp,Op.stringOp]
         rw[if_neg hb]
         rfl)
theorem zAhm {op:UnOp}{x v:Value}(h:unV op x=some v):(Op.unary op x).run P w = .ok v w:=by
  cases x<;>cases op<;>simp[unV]at h<;>(subst h;simp[Op.unary,Op.intArith,Op.intBits])
theorem zAfu {x v:Value}{i:Nat}(h:zE3 i x=some v):(Instr.extract x i).run P w = .ok v w:=by
  cases x<;>simp only[zE3]at h<;>first
    | (cases h;done)
    | simp[Instr.extract,h]
theorem zNA {d top:Nat}{x:Value}{code:BoundsCode}{n:Nat}(h:bnd d top (some x)=some n):(Instr.sliceBound x top code).run P w = .ok n w:=by
  unfold bnd at h
  cases x<;>simp only[reduceCtorEq]at h
  rename_i k i
  split at h
  · rename_i hc
    cases h
    simp[Instr.sliceBound,asIntOf,hc]
  · cases h
theorem zUh {isS:Bool}{len cap:Nat}{low high max:Option Value}{l h m:Nat}(hb:zMj len cap low high max=some (l,h,m))(hm:(max.isSome&&high.isNone)=false) :
    (Instr.sliceBounds isS len cap low high max).run P w = .ok (l,h,m) w:=by
  unfold zMj at hb
  cases hm':bnd cap cap max with
  | none=>simp[hm']at hb
  | some m' =>
    simp only[hm',zAT]at hb
    cases hh':bnd len m' high with
    | none=>simp[hh']at hb
    | some h' =>
      simp only[hh',zAT]at hb
      cases hl':bnd 0 h' low with
      | none=>simp[hl']at hb
      | some l' =>
        simp only[hl',zAO,zAk,Prod.mk.injEq]at hb
        obtain⟨rfl,rfl,rfl⟩:=hb
        cases max with
        | none =>
          simp only[bnd,zAk]at hm'
          subst hm'
          cases high with
          | none =>
            simp only[bnd,zAk]at hh'
            subst hh'
            cases low with
            | none=>simp only[bnd,zAk]at hl';subst hl';simp[Instr.sliceBounds]
            | some lv=>simp[Instr.sliceBounds,zNA hl']
          | some hv =>
            cases low with
            | none=>simp only[bnd,zAk]at hl';subst hl';simp[Instr.sliceBounds,zNA hh']
            | some lv=>simp[Instr.sliceBounds,zNA hh',zNA hl']
        | some mv =>
          cases high with
          | none=>simp at hm
          | some hv =>
            cases low with
            | none=>simp only[bnd,zAk]at hl';subst hl';simp[Instr.sliceBounds,zNA hm',zNA hh']
            | some lv=>simp[Instr.sliceBounds,zNA hm',zNA hh',zNA hl']
theorem zAfv {T e:TypeId}(hu:P.underlying T=some (.slice e))(he:∃ i,P.info? e=some i){x v:Value}{low high max:Option Value}(h:slS (P.cellsOf e) x low high max=some v) :
    (Instr.sliceAt T x low high max).run P w = .ok v w:=by
  obtain⟨ie,hie⟩:=he
  unfold slS at h
  split at h
  · rename_i a len cap
    split at h
    · cases h
    · rename_i hm
      cases hb:zMj len cap low high max with
      | none=>simp[hb]at h
      | some t =>
        obtain⟨l,hh,m⟩:=t
        have hr:=zUh (P:=P) (w:=w) (isS:=true) hb (by revert hm;cases max.isSome<;>cases high.isNone<;>simp)
        simp only[hb,zAT]at h
        have hfin:(Instr.sliceAt T (.slice a len cap) low high max).run P w = .ok (.slice (if m=l then a else a.map (·.add (l*P.cellsOf e))) (hh-l) (m-l)) w:=by
          simp[Instr.sliceAt,zCx hu,Instr.slice,hr,zDZ hie]
        rw[hfin]
        rcases a with _|⟨b,o,_|s⟩
        · simp only[zAk]at h
          subst h
          simp
        · simp only[zAk]at h
          subst h
          by_cases hml:m=l<;>simp[hml,zHV]
        · simp only at h
          split at h
          · rename_i hl0
            simp only[zAk]at h
            subst h hl0
            have h0:(⟨b,o,some s⟩:Addr).add (0*P.cellsOf e)=⟨b,o,some s⟩:=by
              rw[Nat.zero_mul]
              unfold Addr.add
              split<;>simp_all
            by_cases hml:m=0
            · simp[hml]
            · simp only[hml,if_false,zAO,h0,Nat.sub_zero]
          · cases h
  · cases h
theorem zAfw {T e:TypeId}{n:Nat}(hu:P.underlying T=some (.array n e))(he:∃ i,P.info? e=some i){x v:Value}{low high max:Option Value}(h:slA n (P.cellsOf e) x low high max=some v) :
    (Instr.sliceAt T x low high max).run P w = .ok v w:=by
  obtain⟨ie,hie⟩:=he
  unfold slA at h
  split at h
  · rename_i b o
    split at h
    · cases h
    · rename_i hm
      cases hb:zMj n n low high max with
      | none=>simp[hb]at h
      | some t =>
        obtain⟨l,hh,m⟩:=t
        have hr:=zUh (P:=P) (w:=w) (isS:=false) hb (by revert hm;cases max.isSome<;>cases high.isNone<;>simp)
        simp only[hb,zAO,zAk]at h
        subst h
        by_cases hml:m=l<;>simp[Instr.sliceAt,zCx hu,Instr.sureAddr,hr,zDZ hie,hml,zHV]
  · cases h
theorem zAfx {T:TypeId}(hu:P.underlying T=some .string){x v:Value}{low high:Option Value}(h:slT x low high=some v) :
    (Instr.sliceAt T x low high none).run P w = .ok v w:=by
  unfold slT at h
  split at h
  · rename_i s
    cases hb:zMj s.size s.size low high none with
    | none=>simp[hb]at h
    | some t =>
      obtain⟨l,hh,m⟩:=t
      have hr:=zUh (P:=P) (w:=w) (isS:=false) hb (by simp)
      simp only[hb,zAO,zAk]at h
      subst h
      simp[Instr.sliceAt,zCx hu,Instr.slice,hr]
  · cases h
end
end Go.X
