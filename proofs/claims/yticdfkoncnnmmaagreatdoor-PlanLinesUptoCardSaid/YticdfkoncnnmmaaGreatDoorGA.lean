import Derived.Calls
import Derived.Orders
import Derived.OrdersIn
import Derived.RangeFuncIn
import Derived.RangeFuncCalls
import Derived.RangeFuncLeaves
import Derived.Laws.CopyRow
import Derived.Laws.Rows
import Derived.Laws.MakeOwn
import Derived.Laws.StructEq
import Derived.Laws.Unary
import Derived.Laws.Slices
set_option linter.unusedSimpArgs false
set_option linter.unusedVariables false
namespace Go.X
theorem zBw:type_of% @Array.all_eq_true_iff_forall_mem:=@Array.all_eq_true_iff_forall_mem
theorem zBt:type_of% @Array.getD_eq_getD_getElem?:=@Array.getD_eq_getD_getElem?
theorem zBr:type_of% @Array.getElem?_eq_getElem:=@Array.getElem?_eq_getElem
theorem zBg:type_of% @Array.getElem?_eq_some_iff:=@Array.getElem?_eq_some_iff
theorem zCc:type_of% @Array.getElem?_push:=@Array.getElem?_push
theorem zAD:type_of% @Array.getElem?_setIfInBounds:=@Array.getElem?_setIfInBounds
theorem zBv:type_of% @Array.mem_toList_iff:=@Array.mem_toList_iff
theorem zB5:type_of% @Array.toList_setIfInBounds:=@Array.toList_setIfInBounds
theorem zAk:type_of% @Bool.and_eq_true:=@Bool.and_eq_true
theorem zB8:type_of% @Bool.and_false:=@Bool.and_false
theorem zA4:type_of% @Bool.eq_iff_iff:=@Bool.eq_iff_iff
theorem zA1:type_of% @Bool.false_and:=@Bool.false_and
theorem zAb:type_of% @Bool.false_eq_true:=@Bool.false_eq_true
theorem zBz:type_of% @Bool.not_eq_true':=@Bool.not_eq_true'
theorem zAd:type_of% @Bool.not_false:=@Bool.not_false
theorem zAe:type_of% @Bool.not_true:=@Bool.not_true
theorem zB4:type_of% @Bool.or_eq_true:=@Bool.or_eq_true
theorem zBh:type_of% @Bool.true_and:=@Bool.true_and
theorem zAc:type_of% @Bool.true_eq_false:=@Bool.true_eq_false
theorem zCK:type_of% @Int.tdiv_eq_ediv_of_nonneg:=@Int.tdiv_eq_ediv_of_nonneg
theorem zCN:type_of% @Int.toNat_natCast:=@Int.toNat_natCast
theorem zDc:type_of% @List.all_eq_false:=@List.all_eq_false
theorem zAy:type_of% @List.all_eq_true:=@List.all_eq_true
theorem zCO:type_of% @List.any_eq_false:=@List.any_eq_false
theorem zBM:type_of% @List.any_eq_true:=@List.any_eq_true
theorem zBc:type_of% @List.append_assoc:=@List.append_assoc
theorem zAN:type_of% @List.append_nil:=@List.append_nil
theorem zCs:type_of% @List.cons_append:=@List.cons_append
theorem zB7:type_of% @List.drop_append_of_le_length:=@List.drop_append_of_le_length
theorem zCE:type_of% @List.drop_drop:=@List.drop_drop
theorem zBF:type_of% @List.drop_eq_getElem_cons:=@List.drop_eq_getElem_cons
theorem zCH:type_of% @List.drop_eq_nil_of_le:=@List.drop_eq_nil_of_le
theorem zCr:type_of% @List.drop_take:=@List.drop_take
theorem zBY:type_of% @List.drop_zero:=@List.drop_zero
theorem zCP:type_of% @List.ext_getElem?:=@List.ext_getElem?
theorem zCb:type_of% @List.filter_cons:=@List.filter_cons
theorem zC4:type_of% @List.find?_eq_none:=@List.find?_eq_none
theorem zCp:type_of% @List.findSome?_cons:=@List.findSome?_cons
theorem zBp:type_of% @List.flatten_append:=@List.flatten_append
theorem zA7:type_of% @List.flatten_cons:=@List.flatten_cons
theorem zCj:type_of% @List.flatten_nil:=@List.flatten_nil
theorem zBb:type_of% @List.getElem?_append_right:=@List.getElem?_append_right
theorem zC1:type_of% @List.getElem?_cons_succ:=@List.getElem?_cons_succ
theorem zC2:type_of% @List.getElem?_cons_zero:=@List.getElem?_cons_zero
theorem zC5:type_of% @List.getElem?_drop:=@List.getElem?_drop
theorem zAj:type_of% @List.getElem?_eq_getElem:=@List.getElem?_eq_getElem
theorem zDe:type_of% @List.getElem?_eq_none:=@List.getElem?_eq_none
theorem zAP:type_of% @List.getElem?_eq_some_iff:=@List.getElem?_eq_some_iff
theorem zAp:type_of% @List.getElem?_map:=@List.getElem?_map
theorem zCl:type_of% @List.getElem?_take:=@List.getElem?_take
theorem zDf:type_of% @List.getElem?_toArray:=@List.getElem?_toArray
theorem zAG:type_of% @List.getElem_mem:=@List.getElem_mem
theorem zBx:type_of% @List.getElem_of_mem:=@List.getElem_of_mem
theorem zAq:type_of% @List.length_append:=@List.length_append
theorem zAQ:type_of% @List.length_cons:=@List.length_cons
theorem zCY:type_of% @List.length_drop:=@List.length_drop
theorem zBk:type_of% @List.length_eq_zero_iff:=@List.length_eq_zero_iff
theorem zBl:type_of% @List.length_filter_le:=@List.length_filter_le
theorem zAf:type_of% @List.length_map:=@List.length_map
theorem zCZ:type_of% @List.length_reverse:=@List.length_reverse
theorem zBe:type_of% @List.length_singleton:=@List.length_singleton
theorem zAZ:type_of% @List.length_take:=@List.length_take
theorem zAE:type_of% @List.map_append:=@List.map_append
theorem zBS:type_of% @List.map_congr_left:=@List.map_congr_left
theorem zAW:type_of% @List.map_cons:=@List.map_cons
theorem zCm:type_of% @List.map_nil:=@List.map_nil
theorem zCw:type_of% @List.map_take:=@List.map_take
theorem zAt:type_of% @List.mem_append:=@List.mem_append
theorem zAr:type_of% @List.mem_cons:=@List.mem_cons
theorem zCW:type_of% @List.mem_cons_of_mem:=@List.mem_cons_of_mem
theorem zAX:type_of% @List.mem_filter:=@List.mem_filter
theorem zAo:type_of% @List.mem_map:=@List.mem_map
theorem zCT:type_of% @List.mem_of_find?_eq_some:=@List.mem_of_find?_eq_some
theorem zAB:type_of% @List.mem_of_getElem?:=@List.mem_of_getElem?
theorem zBs:type_of% @List.mem_of_mem_take:=@List.mem_of_mem_take
theorem zBZ:type_of% @List.mem_range:=@List.mem_range
theorem zAF:type_of% @List.mem_singleton:=@List.mem_singleton
theorem zA0:type_of% @List.nil_append:=@List.nil_append
theorem zCA:type_of% @List.nodup_append:=@List.nodup_append
theorem zCJ:type_of% @List.nodup_cons:=@List.nodup_cons
theorem zB0:type_of% @List.nodup_iff_pairwise_ne:=@List.nodup_iff_pairwise_ne
theorem zCG:type_of% @List.not_mem_nil:=@List.not_mem_nil
theorem zCd:type_of% @List.pairwise_cons:=@List.pairwise_cons
theorem zBG:type_of% @List.pairwise_iff_getElem:=@List.pairwise_iff_getElem
theorem zBA:type_of% @List.pairwise_map:=@List.pairwise_map
theorem zCQ:type_of% @List.reverse_cons:=@List.reverse_cons
theorem zCM:type_of% @List.set_append_right:=@List.set_append_right
theorem zCe:type_of% @List.size_toArray:=@List.size_toArray
theorem zAI:type_of% @List.take_add_one:=@List.take_add_one
theorem zBu:type_of% @List.take_append_drop:=@List.take_append_drop
theorem zBi:type_of% @List.take_append_of_le_length:=@List.take_append_of_le_length
theorem zBN:type_of% @List.take_length:=@List.take_length
theorem zAs:type_of% @List.take_of_length_le:=@List.take_of_length_le
theorem zBT:type_of% @List.take_succ_cons:=@List.take_succ_cons
theorem zDa:type_of% @List.take_take:=@List.take_take
theorem zBC:type_of% @List.toList_toArray:=@List.toList_toArray
theorem zCF:type_of% @Nat.add_sub_cancel_left:=@Nat.add_sub_cancel_left
theorem zAu:type_of% @Nat.add_zero:=@Nat.add_zero
theorem zB2:type_of% @Nat.beq_refl:=@Nat.beq_refl
theorem zA6:type_of% @Nat.eq_of_beq_eq_true:=@Nat.eq_of_beq_eq_true
theorem zC6:type_of% @Nat.le_of_ble_eq_true:=@Nat.le_of_ble_eq_true
theorem zAh:type_of% @Nat.le_refl:=@Nat.le_refl
theorem zBj:type_of% @Nat.le_trans:=@Nat.le_trans
theorem zCU:type_of% @Nat.lt_irrefl:=@Nat.lt_irrefl
theorem zAS:type_of% @Nat.lt_of_lt_of_le:=@Nat.lt_of_lt_of_le
theorem zBI:type_of% @Nat.min_eq_left:=@Nat.min_eq_left
theorem zBo:type_of% @Nat.mul_le_mul_right:=@Nat.mul_le_mul_right
theorem zCt:type_of% @Nat.mul_one:=@Nat.mul_one
theorem zCR:type_of% @Nat.pow_add:=@Nat.pow_add
theorem zBD:type_of% @Nat.pow_le_pow_right:=@Nat.pow_le_pow_right
theorem zCx:type_of% @Nat.succ_mul:=@Nat.succ_mul
theorem zAg:type_of% @Nat.zero_add:=@Nat.zero_add
theorem zAA:type_of% @Nat.zero_le:=@Nat.zero_le
theorem zAY:type_of% @Option.bind_some:=@Option.bind_some
theorem zB6:type_of% @Option.isSome_iff_exists:=@Option.isSome_iff_exists
theorem zBy:type_of% @Option.map_eq_some_iff:=@Option.map_eq_some_iff
theorem zAR:type_of% @Option.map_some:=@Option.map_some
theorem zAK:type_of% @Option.some.inj:=@Option.some.inj
theorem zAm:type_of% @Option.some.injEq:=@Option.some.injEq
abbrev zAw:=Array Obj
abbrev zAn:=Value->zAw->Prop
abbrev zA2:=Nat->Prop
abbrev zAM:Nat->Prop:=λ_=>False
def zFT (H H':zAw):Prop:=∀ (i:Nat) (ds:Option (List Deferred)),H[i]? = some (Obj.deferred ds)->H'[i]? = some (Obj.deferred ds)
theorem zFT.rfl' {H:zAw}:zFT H H:=λ_ _ h=>h
theorem zFT.trans {a b c:zAw}(h:zFT a b)(k:zFT b c):zFT a c:=λi ds hi=>k i ds (h i ds hi)
theorem zFT.push {H:zAw}{o:Obj}:zFT H (H.push o):=λi ds h=>by
  have:=(zBg.1 h).1
  rw[zCc,if_neg (by omega)];exact h
theorem zFT.set {H:zAw}{b:Nat}{c c':Array Value}{T T':TypeId}{f f':Nat×Nat}(hb:H[b]? = some (.cells c T f)):zFT H (H.setIfInBounds b (.cells c' T' f')):=λi ds h=>by
  rw[zAD]
  split
  · rename_i e;subst e;rw[hb]at h;cases h
  · exact h
structure zJs (w w':World):Prop where
  os:w'.os=w.os
  tape:w'.tape=w.tape
  output:w'.output=w.output
  solid:zFT w.heap w'.heap
theorem zJs.rfl' (w:World):zJs w w:=⟨rfl,rfl,rfl,zFT.rfl'⟩
theorem zJs.trans {a b c:World}(h:zJs a b)(k:zJs b c):zJs a c :=
  ⟨k.os.trans h.os,k.tape.trans h.tape,k.output.trans h.output,h.solid.trans k.solid⟩
def zAz (P:Program)(f:FuncId)(args:List Value)(H:zAw)(R:zAn):Prop :=
  ∀ w:World,w.heap=H->Calls P f args.toArray w λe w'=>∃ v,e = .returned v/\zJs w w'/\R v w'.heap
theorem zAz.mono {P:Program}{f:FuncId}{args:List Value}{H:zAw}{R R':zAn}(h:zAz P f args H R)(k:∀ v h,R v h->R' v h):zAz P f args H R' :=
  λw hw=>(h w hw).mono λ_ _ ⟨v,e,s,r⟩=>⟨v,e,s,k _ _ r⟩
def zTn (P:Program)(l:Nat)(args:List Value)(H:zAw)(R:zAn):Prop :=
  ∀ w:World,w.heap=H->∃ f tmps assign body,(Instr.yield l args.toArray).run P w = .ok (.round l f tmps assign body) w /\
    RoundIn Fence.wide 0 P l f tmps assign body w λe w'=>∃ v,e = .returned v/\zJs w w'/\R v w'.heap
theorem zTn.mono {P:Program}{l:Nat}{args:List Value}{H:zAw}{R R':zAn}(h:zTn P l args H R)(k:∀ v h,R v h->R' v h):zTn P l args H R':=λw hw =>
  let ⟨f,t,a,b,e,r⟩:=h w hw
  ⟨f,t,a,b,e,r.mono λ_ _ ⟨v,e,s,r⟩=>⟨v,e,s,k _ _ r⟩⟩
abbrev Env:=Nat->Value
def Env.put (e:Env)(d:Option Nat)(v:Value):Env :=
  match d with
  | some d=>λi=>bif Nat.beq i d then v else e i
  | none=>e
def ev (e:Env):Operand->Value
  | .tmp t=>e t
  | .const v=>v
  | .global g => .pointer (some ⟨g,0,none⟩)
  | .func f => .func (.func f) #[] #[]
def Mpu (o:Option Value)(k:Value->Prop):Prop:=∃ v,o=some v/\k v
def Mwr (o:Option zAw)(k:zAw->Prop):Prop:=∃ h,o=some h/\k h
def zDA (H:zAw)(T:TypeId)(c:Option (Array Value))(k:zAn):Prop :=
  ∃ cs,c=some cs/\k (.pointer (some ⟨H.size,0,none⟩)) (H.push (.cells cs T (0,0)))
def zA3 (P:Program)(f:FuncId)(args:List Value)(H:zAw)(k:zAn):Prop:=zAz P f args H k
def zPc (P:Program)(f:FuncId):Bool:=match P.funcs[f]? with
  | some fn=>fn.body.isSome&&fn.name != "runtime.NumGoroutine"
  | none=>false
def zDM (P:Program)(fv:Value)(args:List Value)(H:zAw)(k:zAn):Prop :=
  (∃ f fi ca,fv = .func (.func f) fi ca/\zPc P f=true/\zAz P f (fi.toList++args++ca.toList) H k) \/
  ∃ l fi ca,fv = .func (.yield l) fi ca/\zTn P l (fi.toList++args) H k
theorem zDM.mono {P:Program}{fv:Value}{args:List Value}{H:zAw}{R R':zAn}(h:zDM P fv args H R)(k:∀ v h,R v h->R' v h):zDM P fv args H R':=by
  rcases h with ⟨f,fi,ca,e,b,h⟩|⟨l,fi,ca,e,h⟩
  · exact .inl ⟨f,fi,ca,e,b,h.mono k⟩
  · exact .inr ⟨l,fi,ca,e,h.mono k⟩
def zPd (P:Program)(s:Sem Value)(H:zAw)(k:zAn):Prop :=
  ∀ w:World,w.heap=H->∃ v w',s.run P w = .ok v w'/\zJs w w'/\k v w'.heap
def Msu (P:Program)(s:Sem Unit)(H:zAw)(k:zAn):Prop :=
  ∀ w:World,w.heap=H->∃ w',s.run P w = .ok () w'/\zJs w w'/\k undef w'.heap
def zAbw (P:Program)(f:FuncId):Option (Array Value->Sem Value):=match P.funcs[f]? with
  | some fn=>bif fn.body.isNone&&(fn.name != "runtime.NumGoroutine")&&(Extern.findNext fn).isNone then Extern.find fn else none
  | none=>none
def xtV (P:Program)(f:FuncId)(args:Array Value):Sem Value:=match zAbw P f with
  | some e=>e args
  | none=>stuck "no row"
def usd:Value->Option Value
  | .slice none _ _=>some (.pointer none)
  | .slice (some a) _ c=>if c≠0 then some (.pointer (some a)) else none
  | _=>none
def Ext (H H':zAw):Prop:=H.size<=H'.size/\∀ i,i<H.size->H'[i]? = H[i]?
def zAi8 (P:Program)(f:FuncId)(args:List Value)(H:zAw)(k:zAn):Prop:=zAz P f args H λv h=>Ext H h/\k v h
def Mif (c:Value)(want:Bool)(yes no:Prop):Prop:=(∃ b,c = .bool b/\(b=want->yes)/\(b=(!want)->no))\/((∀ b,c ≠ .bool b)/\no)
def Mcd (c:Value)(yes no:Prop):Prop:=∃ b,c = .bool b/\(b=true->yes)/\(b=false->no)
def zUx (P:Program)(o:Oper)(ρ:Operand->Value)(H:zAw)(k:zAn):Prop :=
  ∀ w:World,w.heap=H->∃ n w',(execOp ρ o).run P w = .ok n w'/\zJs w w' /\
    ((∃ v,n = .value v/\k v w'.heap)\/(n = .skip/\k undef w'.heap))
def ld1 (H:zAw):Value->Option Value
  | .pointer (some ⟨b,o,none⟩)=>match H[b]? with
    | some (.cells c _ _)=>c[o]?
    | _=>none
  | _=>none
def ldN (n:Nat)(H:zAw):Value->Option Value
  | .pointer (some ⟨b,o,none⟩)=>match H[b]? with
    | some (.cells c _ _)=>if o+n<=c.size then some (.agg (c.extract o (o+n))) else none
    | _=>none
  | _=>none
def spl (c:Array Value)(o:Nat)(vs:Array Value):Array Value:=(c.toList.take o++vs.toList++c.toList.drop (o+vs.size)).toArray
def zUJ (f:Nat×Nat)(o n:Nat):Bool:=decide (f.2<=o) || decide (o+n<=f.1) || decide (f.2<=f.1)
def stA (H:zAw)(b o:Nat)(vs:Array Value):Option zAw :=
  match H[b]? with
  | some (.cells c T f)=>if o+vs.size<=c.size/\zUJ f o vs.size=true/\vs.all (·.oneCell')=true then some (H.setIfInBounds b (.cells (spl c o vs) T f)) else none
  | _=>none
def st1 (H:zAw)(p v:Value):Option zAw :=
  match p with
  | .pointer (some ⟨b,o,none⟩)=>match H[b]? with
    | some (.cells c T f)=>if o<c.size/\zUJ f o 1=true/\v.oneCell'=true then some (H.setIfInBounds b (.cells (c.setIfInBounds o v) T f)) else none
    | _=>none
  | _=>none
def stN (n:Nat)(H:zAw)(p v:Value):Option zAw :=
  match p,v with
  | .pointer (some ⟨b,o,none⟩),.agg vs=>if vs.size=n then stA H b o vs else none
  | _,_=>none
def nck:Value->Option Value
  | .pointer (some a)=>some (.pointer (some a))
  | .func (.func f) a b=>some (.func (.func f) a b)
  | _=>none
def fld (off:Nat):Value->Option Value
  | .pointer (some ⟨b,o,none⟩)=>some (.pointer (some ⟨b,o+off,none⟩))
  | _=>none
def zBH:Value->Value->Value->Option Value
  | .bool c,a,b=>some (if c then a else b)
  | _,_,_=>none
def zVp (agg:Bool)(n off:Nat):Value->Option Value
  | .agg cs=>if agg then some (.agg (cs.extract off (off+n))) else cs[off]?
  | _=>none
def ixS (size:Nat):Value->Value->Option Value
  | .slice (some ⟨b,o,none⟩) len _,.int _ i=>if 0<=i/\i<len then some (.pointer (some ⟨b,o+i.toNat*size,none⟩)) else none
  | _,_=>none
def ixA (len size:Nat):Value->Value->Option Value
  | .pointer (some ⟨b,o,none⟩),.int _ i=>if 0<=i/\i<len then some (.pointer (some ⟨b,o+i.toNat*size,none⟩)) else none
  | _,_=>none
def ixT:Value->Value->Option Value
  | .string s,.int _ i=>if 0<=i then (s[i.toNat]?).map λb => .int .u8 b.toNat else none
  | _,_=>none
def ixV (len:Nat)(agg:Bool)(size:Nat):Value->Value->Option Value
  | .agg cs,.int _ i=>if 0<=i/\i<len then (if agg then some (.agg (cs.extract (i.toNat*size) (i.toNat*size+size))) else cs[i.toNat*size]?) else none
  | _,_=>none
def zC3 (op:BinOp)(k:IntKind)(a b:Int):Option Value :=
  match op with
  | .add=>some (.int k (k.wrap (a+b)))
  | .sub=>some (.int k (k.wrap (a-b)))
  | .mul=>some (.int k (k.wrap (a*b)))
  | .quo=>if b=0 then none else some (.int k (k.wrap (a.tdiv b)))
  | .rem=>if b=0 then none else some (.int k (a.tmod b))
  | .and=>some (.int k (k.wrap (BitVec.ofInt k.bits a &&& BitVec.ofInt k.bits b).toNat))
  | .or=>some (.int k (k.wrap (BitVec.ofInt k.bits a ||| BitVec.ofInt k.bits b).toNat))
  | .xor=>some (.int k (k.wrap (BitVec.ofInt k.bits a ^^^ BitVec.ofInt k.bits b).toNat))
  | .andNot=>some (.int k (k.wrap (BitVec.ofInt k.bits a &&& ~~~BitVec.ofInt k.bits b).toNat))
  | .eql=>some (.bool (a == b))
  | .neq=>some (.bool (a != b))
  | .lss=>some (.bool (decide (a<b)))
  | .leq=>some (.bool (decide (a<=b)))
  | .gtr=>some (.bool (decide (a > b)))
  | .geq=>some (.bool (decide (a>=b)))
  | .shl=>if b<0 then none else some (.int k (k.wrap (a*2 ^ (min b.toNat k.bits))))
  | .shr=>if b<0 then none else some (.int k (a.fdiv (2 ^ (min b.toNat k.bits))))
def zS3 (op:BinOp)(x y:ByteArray):Option Value :=
  match op with
  | .add=>if ((x.size+y.size:Nat):Int) > IntKind.i64.max then none else some (.string (x++y))
  | .eql=>some (.bool (x.toList == y.toList))
  | .neq=>some (.bool !(x.toList == y.toList))
  | .lss=>some (.bool (Op.bytesLess x.toList y.toList))
  | .leq=>some (.bool (Op.bytesLess x.toList y.toList || x.toList == y.toList))
  | .gtr=>some (.bool !(Op.bytesLess x.toList y.toList || x.toList == y.toList))
  | .geq=>some (.bool !(Op.bytesLess x.toList y.toList))
  | _=>none
def zNP:Nat->Value->Value->Option Bool
  | 0,.int k a,.int k' b=>if k=k' then some (a == b) else none
  | 1,.bool a,.bool b=>some (a == b)
  | 2,.string a,.string b=>some (a.toList == b.toList)
  | _,_,_=>none
def zCL:List Nat->List Value->List Value->Option Bool
  | [],[],[]=>some true
  | k::ks,a::as,b::bs=>match zNP k a b,zCL ks as bs with
    | some x,some y=>some (x&&y)
    | _,_=>none
  | _,_,_=>none
inductive EqK where
  | no|bool|ptr|slc|fn|flat (ks:List Nat)
  | ifc (f:TypeId->Bool) (lit:Bool)
def eqV:EqK->Value->Value->Option Bool
  | .bool,.bool a,.bool b=>some (a == b)
  | .ptr,.pointer none,.pointer b=>some b.isNone
  | .ptr,.pointer (some _),.pointer none=>some false
  | .ptr,.pointer (some a),.pointer (some b)=>if a=b then some true else none
  | .slc,.slice none _ _,.slice b _ _=>some b.isNone
  | .slc,.slice (some _) _ _,.slice none _ _=>some false
  | .fn,.nilFunc,.nilFunc=>some true
  | .fn,.nilFunc,.func _ _ _=>some false
  | .fn,.func _ _ _,.nilFunc=>some false
  | .flat ks,.agg xs,.agg ys=>zCL ks xs.toList ys.toList
  | .ifc _ lit,.nilIface,.nilIface=>bif lit then some true else none
  | .ifc _ _,.nilIface,.iface _ _=>some false
  | .ifc _ _,.iface _ _,.nilIface=>some false
  | .ifc f _,.iface tx (.int k a),.iface ty (.int k' b)=>bif Nat.beq tx ty then (bif f tx then (if k=k' then some (a == b) else none) else none) else some false
  | .ifc _ _,.iface tx _,.iface ty _=>bif Nat.beq tx ty then none else some false
  | _,_,_=>none
def zAC (q:EqK)(op:BinOp)(x y:Value):Option Value :=
  match x,y with
  | .int k a,.int k' b=>if k=k' then zC3 op k a b else (match op with | .shl=>zC3 .shl k a b | .shr=>zC3 .shr k a b|_=>none)
  | .string a,.string b=>zS3 op a b
  | x,y=>match op with
    | .eql=>(eqV q x y).map .bool
    | .neq=>(eqV q x y).map λb => .bool (!b)
    | _=>none
def unV (op:UnOp):Value->Option Value
  | .int k n=>match op with
    | .neg=>some (.int k (k.wrap (0-n)))
    | .xor=>some (.int k (k.wrap (BitVec.ofInt k.bits (if k.signed then -1 else k.max) ^^^ BitVec.ofInt k.bits n).toNat))
    | _=>none
  | .bool b=>match op with
    | .not=>some (.bool (!b))
    | _=>none
  | _=>none
def cvI (k:IntKind):Value->Option Value
  | .int _ n=>some (.int k (k.wrap n))
  | _=>none
def zLS:Value->Option Value
  | .string s=>some (.int .i64 s.size)
  | _=>none
def zDD:Value->Option Value
  | .slice _ n _=>some (.int .i64 n)
  | _=>none
def zAfZ:Value->Option Value
  | .slice _ _ n=>some (.int .i64 n)
  | _=>none
def bnd (d:Nat)(top:Nat):Option Value->Option Nat
  | none=>some d
  | some (.int _ i)=>if 0<=i/\i<=top then some i.toNat else none
  | some _=>none
def zM9 (len cap:Nat)(low high max:Option Value):Option (Nat×Nat×Nat) :=
  (bnd cap cap max).bind λm=>(bnd len m high).bind λh=>(bnd 0 h low).map λl=>(l,h,m)
def slS (size:Nat)(x:Value)(low high max:Option Value):Option Value :=
  match x with
  | .slice a len cap=>(if max.isSome&&high.isNone then none else zM9 len cap low high max).bind λ(l,h,m) =>
      match a with
      | none=>some (.slice none (h-l) (m-l))
      | some ⟨b,o,none⟩=>some (.slice (some ⟨b,if m=l then o else o+l*size,none⟩) (h-l) (m-l))
      | some a=>if l=0 then some (.slice (some a) h m) else none
  | _=>none
def slA (n size:Nat)(x:Value)(low high max:Option Value):Option Value :=
  match x with
  | .pointer (some ⟨b,o,none⟩)=>(if max.isSome&&high.isNone then none else zM9 n n low high max).map λ(l,h,m) =>
      .slice (some ⟨b,if m=l then o else o+l*size,none⟩) (h-l) (m-l)
  | _=>none
def slT (x:Value)(low high:Option Value):Option Value :=
  match x with
  | .string s=>(zM9 s.size s.size low high none).map λ(l,h,_) => .string (s.extract l h)
  | _=>none
def zFg (i:Nat):Value->Option Value
  | .tuple vs=>vs[i]?
  | _=>none
def zEy (size:Nat)(H:zAw):Value->Option (Nat×Array Value)
  | .slice a n _=>if n=0 then some (0,#[]) else match a with
    | some ⟨b,o,none⟩=>match H[b]? with
      | some (.cells c _ _)=>if o+n*size<=c.size then some (n,c.extract o (o+n*size)) else none
      | _=>none
    | _=>none
  | .string s=>if size=1 then some (s.size,s.data.map λb => .int .u8 b.toNat) else none
  | _=>none
def zIU (T:TypeId)(size bytes:Nat)(H:zAw)(s x:Value)(k:zAn):Prop :=
  ∃ base len cap n new,s = .slice base len cap/\zEy size H x=some (n,new)/\new.all (·.oneCell')=true /\
    (len+n<=cap->match base with
      | none=>k (.slice none (len+n) cap) H
      | some ⟨b,o,none⟩=>Mwr (stA H b (o+len*size) new) λh=>k (.slice base (len+n) cap) h
      | some _=>False) /\
    (cap<len+n->(len+n)*bytes<=140737488355328/\0<bytes/\∃ old,zEy size H (.slice base len cap)=some (len,old) /\
      ∀ cap' rest,len+n<=cap'->cap'<9223372036854775808->rest.size=(cap' - (len+n))*size ->
        k (.slice (some ⟨H.size,0,none⟩) (len+n) cap') (H.push (.cells (old++new++rest) T (0,0))))
def zRN (z:Array Value)(n:Nat):Array Value:=(Array.range n).map λi=>z[i % z.size]!
def zAd4 (T:TypeId)(size bytes:Nat)(H:zAw)(s x:Value)(z:Option (Array Value))(k:zAn):Prop :=
  ∃ base len cap kx n zc,s = .slice base len cap/\x = .int kx (n:Nat)/\n*bytes<=140737488355328/\n<9223372036854775808/\z=some zc/\(zRN zc (n*size)).all (·.oneCell')=true /\
    (len+n<=cap->match base with
      | none=>k (.slice none (len+n) cap) H
      | some ⟨b,o,none⟩=>Mwr (stA H b (o+len*size) (zRN zc (n*size))) λh=>k (.slice base (len+n) cap) h
      | some _=>False) /\
    (cap<len+n->(len+n)*bytes<=140737488355328/\0<bytes/\∃ old,zEy size H (.slice base len cap)=some (len,old) /\
      ∀ cap' rest,len+n<=cap'->cap'<9223372036854775808->rest.size=(cap' - (len+n))*size ->
        k (.slice (some ⟨H.size,0,none⟩) (len+n) cap') (H.push (.cells (old++zRN zc (n*size)++rest) T (0,0))))
def zQA (size:Nat)(H:zAw)(d s:Value)(k:zAn):Prop :=
  ∃ n new base len cap,zEy size H s=some (n,new)/\d = .slice base len cap /\
    match base with
      | none=>k (.int .i64 (Nat.min n len)) H
      | some ⟨b,o,none⟩=>Mwr (stA H b o (new.extract 0 (Nat.min n len*size))) λh=>k (.int .i64 (Nat.min n len)) h
      | some _=>False
def bytesOf:List Value->Option (List UInt8)
  | []=>some []
  | .int .u8 n::r=>(bytesOf r).map (UInt8.ofNat n.toNat :: ·)
  | _=>none
def b2s (H:zAw)(v:Value):Option Value :=
  match v with
  | .slice _ _ _=>(zEy 1 H v).bind λ(_,c)=>(bytesOf c.toList).map λl => .string ⟨l.toArray⟩
  | _=>none
def zAah (T:TypeId)(H:zAw)(s:Value)(k:zAn):Prop :=
  ∃ str,s = .string str/\str.size<9223372036854775808/\∀ cap,str.size<=cap->cap<9223372036854775808 ->
    k (.slice (some ⟨H.size,0,none⟩) str.size cap) (H.push (.cells ((str.data.map λb=>Value.int .u8 b.toNat)++Array.replicate (cap-str.size) (.int .u8 0)) T (cap,cap+1)))
def zQB (place:Nat->Option (Nat×Nat)):Array Value->List (Nat×Value)->Option (Array Value)
  | cells,[]=>some cells
  | cells,(i,v)::r=>match place i with
    | some (off,size)=>if v.cells.size=size/\off+size<=cells.size then zQB place (spl cells off v.cells) r else none
    | none=>none
def zAeb (op:Bool):List Value->Option Value
  | [.int k a,.int _ b]=>some (.int k (if op then (if b<a then b else a) else (if a<b then b else a)))
  | _=>none
def zMV (P:Program)(T:TypeId):Bool:=match P.underlying T with
  | some (.struct _)=>true
  | some (.array _ _)=>true
  | _=>false
def zAbh (P:Program)(T:TypeId):Bool:=(P.underlying T).isSome&&Nat.beq (P.cellsOf T) 1 && !zMV P T
def zXN (P:Program)(T:TypeId):Bool:=(P.info? T).isSome
def zAg1 (P:Program)(T:TypeId):Bool:=(P.underlying T).isSome
def zBE (P:Program)(T:TypeId):Option (Array Value):=(P.info? T).bind λi=>i.zero.map Value.cells
def zRR (P:Program)(good:TypeId->Option (List Nat)):Nat->List Field->Option (List Nat)
  | _,[]=>some []
  | o,f::fs=>if f.offset == o&&f.name != "_" then (match good f.type with
      | some ks=>if ks.length == P.cellsOf f.type then (zRR P good (o+P.cellsOf f.type) fs).map (ks ++ ·) else none
      | none=>none) else none
def zPe (P:Program):Nat->TypeId->Option (List Nat)
  | 0,_=>none
  | d+1,T=>match P.underlying T with
    | some (.int _)=>some [0]
    | some .bool=>some [1]
    | some .string=>some [2]
    | some (.struct fs)=>if P.stoodInHeld T then none else zRR P (zPe P d) 0 fs.toList
    | some (.array n e)=>match zPe P d e with
      | some ks=>if ks.length == P.cellsOf e then some (List.replicate n ks).flatten else none
      | none=>none
    | _=>none
def eqK (P:Program)(T:TypeId):EqK:=match P.underlying T with
  | some .bool => .bool
  | some (.pointer e)=>if (P.info? e).isSome then .ptr else .no
  | some (.slice _) => .slc
  | some (.func _ _ _) => .fn
  | some (.struct _)=>if P.eqGuardType P.depth T then .no else (match zPe P 9 T with|some ks => .flat ks|none => .no)
  | some (.array _ _)=>if P.eqGuardType P.depth T then .no else (match zPe P 9 T with|some ks => .flat ks|none => .no)
  | _ => .no
def zVq (P:Program)(T:TypeId):Bool:=match P.underlying T with
  | some (.int _)=>(match P.info? T with|some i=>i.comparable|none=>false)
  | _=>false
def isC:Operand->Bool
  | .const _=>true
  | _=>false
def eqQ (P:Program)(T:TypeId)(x y:Operand):EqK:=match P.underlying T with
  | some (.interface _) => .ifc (zVq P) (isC x || isC y)
  | _=>eqK P T
def zAbi (P:Program)(T:TypeId):Bool:=match zBE P T with
  | some z=>Nat.beq z.size (P.cellsOf T)
  | none=>false
def zCV (P:Program)(T:TypeId)(parts:List (Nat×Value)):Option Value :=
  match P.underlying T with
  | some (.struct fs)=>match fs.toList.mapM (λf=>(P.info? f.type).map λi=>(f.offset,i.size)) with
    | some places=>(zBE P T).bind λz=>(zQB (places.toArray[·]?) z parts).map .agg
    | none=>none
  | some (.array _ e)=>match P.info? e with
    | some i=>(zBE P T).bind λz=>(zQB (λj=>some (j*i.size,i.size)) z parts).map .agg
    | none=>none
  | _=>none
def zGf (P:Program)(e:TypeId)(len:Nat)(parts:List (Nat×Value)):Option (Array Value) :=
  if P.cellsOf e=0\/len*P.cellsOf e > 16777216 then none else
  (zBE P e).bind λz=>if z.size=P.cellsOf e then zQB (λi=>some (i*P.cellsOf e,P.cellsOf e)) (zRN z (len*P.cellsOf e)) parts else none
def zD1 (H:zAw)(T:TypeId)(len:Nat)(c:Option (Array Value))(k:zAn):Prop :=
  ∃ cs,c=some cs/\k (.slice (some ⟨H.size,0,none⟩) len len) (H.push (.cells cs T (0,0)))
def zAl2 (P:Program)(H:zAw)(e:TypeId)(l c:Value)(k:zAn):Prop :=
  ∃ kl kc n m z,l = .int kl (n:Nat)/\c = .int kc (m:Nat)/\n<=m/\m*P.bytesOf e<=281474976710656/\m<=9223372036854775807/\zBE P e=some z/\(P.info? e).isSome=true /\
    k (.slice (some ⟨H.size,0,none⟩) n m) (H.push (.cells (zRN z (m*P.cellsOf e)) e (0,0)))
def mkI (P:Program)(T:TypeId)(v:Value):Option Value:=match P.underlying T with
  | some (.interface _)=>none
  | some _=>some (.iface T v)
  | none=>none
inductive XR where
  | val (v:Value)
  | pu (r:Option Value)
  | rd (r:Option Value)
  | wr (r:Option zAw)
  | nw (T:TypeId) (c:Option (Array Value))
  | nws (T:TypeId) (len:Nat) (c:Option (Array Value))
  | ap (T:TypeId) (size bytes:Nat) (s x:Value)
  | az (T:TypeId) (size bytes:Nat) (s x:Value) (z:Option (Array Value))
  | cp (size:Nat) (d s:Value)
  | sb (T:TypeId) (s:Value)
  | cl (f:FuncId) (args:List Value)
  | cv (fv:Value) (args:List Value)
  | mk (T:TypeId) (l c:Value)
  | sm (s:Sem Value)
  | su (s:Sem Unit)
  | raw
  | no
def idS:Value->Option Value
  | .string s=>some (.string s)
  | _=>none
def opR (P:Program)(o:Op)(ρ:Operand->Value)(H:zAw):XR :=
  match o with
  | .move x => .val (ρ x)
  | .assign x => .val (ρ x)
  | .pick c a b => .pu (zBH (ρ c) (ρ a) (ρ b))
  | .alloc T => .nw T (zBE P T)
  | .box T x => .nw T (some (ρ x).cells)
  | .build T parts => .pu (zCV P T (parts.toList.map λp=>(p.1,ρ p.2)))
  | .buildSlice T len parts=>match P.underlying T with
    | some (.slice e) => .nws e len (zGf P e len (parts.toList.map λp=>(p.1,ρ p.2)))
    | _ => .no
  | .load T a=>bif zMV P T then .rd (ldN (P.cellsOf T) H (ρ a)) else bif zAbh P T then .rd (ld1 H (ρ a)) else .no
  | .store T a x=>bif zMV P T then .wr (stN (P.cellsOf T) H (ρ a) (ρ x)) else bif zAbh P T then .wr (st1 H (ρ a) (ρ x)) else .no
  | .nilCheck x => .pu (nck (ρ x))
  | .binOp op T x y _ => .pu (zAC (eqQ P T x y) op (ρ x) (ρ y))
  | .unOp op _ x => .pu (unV op (ρ x))
  | .convert s d x=>match P.underlying s,P.underlying d with
    | some (.int _),some (.int kd) => .pu (cvI kd (ρ x))
    | some (.slice e),some .string=>match P.underlying e with
      | some (.int .u8) => .rd (b2s H (ρ x))
      | _ => .no
    | some .string,some (.slice e)=>match P.underlying e with
      | some (.int .u8) => .sb e (ρ x)
      | _ => .no
    | some .string,some .string => .pu (idS (ρ x))
    | some (.pointer _),some .unsafePointer => .sm (convert s d (ρ x))
    | some .unsafePointer,some (.pointer _) => .sm (convert s d (ρ x))
    | _,_ => .raw
  | .makeFunc fn a b => .val (.func fn (a.map ρ) (b.map ρ))
  | .makeInterface T x => .pu (mkI P T (ρ x))
  | .makeSlice T l c=>match P.underlying T with
    | some (.slice e) => .mk e (ρ l) (ρ c)
    | _ => .no
  | .panic _ => .no
  | .slice T x lo hi mx=>match P.underlying T with
    | some (.slice e)=>bif zXN P e then .pu (slS (P.cellsOf e) (ρ x) (lo.map ρ) (hi.map ρ) (mx.map ρ)) else .no
    | some (.array n e)=>bif zXN P e then .pu (slA n (P.cellsOf e) (ρ x) (lo.map ρ) (hi.map ρ) (mx.map ρ)) else .no
    | some .string=>bif mx.isNone then .pu (slT (ρ x) (lo.map ρ) (hi.map ρ)) else .no
    | _ => .raw
  | .fieldAddr S x f=>match P.underlying S with
    | some (.struct fs)=>match fs[f]? with
      | some fd=>bif Nat.beq (P.cellsOf fd.type) 0 then .raw else .pu (fld fd.offset (ρ x))
      | none => .no
    | _ => .no
  | .field S x f=>match P.underlying S with
    | some (.struct fs)=>match fs[f]? with
      | some fd=>bif zAg1 P fd.type then .pu (zVp (zMV P fd.type) (P.cellsOf fd.type) fd.offset (ρ x)) else .no
      | none => .no
    | _ => .no
  | .indexAddr T x i=>match P.underlying T with
    | some (.slice e)=>bif zXN P e then .pu (ixS (P.cellsOf e) (ρ x) (ρ i)) else .no
    | some (.array n e)=>bif zXN P e then .pu (ixA n (P.cellsOf e) (ρ x) (ρ i)) else .no
    | _ => .no
  | .index T x i=>match P.underlying T with
    | some .string => .pu (ixT (ρ x) (ρ i))
    | some (.array n e)=>bif zAg1 P e then .pu (ixV n (zMV P e) (P.cellsOf e) (ρ x) (ρ i)) else .no
    | _ => .no
  | .extract x i => .pu (zFg i (ρ x))
  | .makeMap t r => .sm (Instr.makeMap t (r.map ρ))
  | .lookup t x i ok => .sm (Instr.lookup t (ρ x) (ρ i) ok)
  | .mapUpdate t m k x => .su (Instr.mapUpdate t (ρ m) (ρ k) (ρ x))
  | .range T x => .sm (Instr.range T (ρ x))
  | .next it s => .sm (Instr.next (ρ it) s 0)
  | .entry it => .sm (Instr.entry (ρ it))
  | .insert t m k x => .su (Instr.mapUpdate t (ρ m) (ρ k) (ρ x))
  | .call c=>match c.callee with
    | .value x=>match x with
      | .func f=>bif zPc P f then .cl f (c.args.toList.map ρ) else bif (zAbw P f).isSome then .sm (xtV P f (c.args.toList.map ρ).toArray) else .raw
      | .tmp t => .cv (ρ (.tmp t)) (c.args.toList.map ρ)
      | .const v => .cv (ρ (.const v)) (c.args.toList.map ρ)
      | .global _ => .raw
    | .builtin .len=>match c.argTypes.toList,c.args.toList with
      | [T],[x]=>match P.underlying T with
        | some .string => .pu (zLS (ρ x))
        | some (.slice _) => .pu (zDD (ρ x))
        | some (.array n _) => .val (.int .i64 n)
        | some (.map _ _) => .sm (Builtin.len_ #[T] 0 #[ρ x])
        | _ => .raw
      | _,_ => .raw
    | .builtin .cap=>match c.argTypes.toList,c.args.toList with
      | [T],[x]=>match P.underlying T with
        | some (.slice _) => .pu (zAfZ (ρ x))
        | _ => .raw
      | _,_ => .raw
    | .builtin .append=>match c.argTypes.toList,c.args.toList with
      | [T,U],[s,x]=>match P.underlying T,P.underlying U with
        | some (.slice e),some (.slice _)=>bif zAbi P e then .ap e (P.cellsOf e) (P.bytesOf e) (ρ s) (ρ x) else .no
        | some (.slice e),some .string=>bif zAbi P e then .ap e (P.cellsOf e) (P.bytesOf e) (ρ s) (ρ x) else .no
        | some (.slice e),some (.int _)=>bif zAbi P e then .az e (P.cellsOf e) (P.bytesOf e) (ρ s) (ρ x) (zBE P e) else .no
        | _,_ => .raw
      | _,_ => .raw
    | .builtin .copy=>match c.argTypes.toList,c.args.toList with
      | [T,_],[d,s]=>match P.underlying T with
        | some (.slice e)=>bif zXN P e then .cp (P.cellsOf e) (ρ d) (ρ s) else .no
        | _ => .raw
      | _,_ => .raw
    | .builtin .unsafeSliceData=>match c.args.toList with
      | [x] => .pu (usd (ρ x))
      | _ => .raw
    | .builtin .unsafeString => .sm (Builtin.unsafeString_ c.argTypes 0 (c.args.toList.map ρ).toArray)
    | .builtin .clear => .sm (Builtin.clear_ c.argTypes 0 (c.args.toList.map ρ).toArray)
    | .builtin .delete => .sm (Builtin.delete_ c.argTypes 0 (c.args.toList.map ρ).toArray)
    | .builtin .min => .pu (zAeb true (c.args.toList.map ρ))
    | .builtin .max => .pu (zAeb false (c.args.toList.map ρ))
    | _ => .raw
  | _ => .raw
def opX (P:Program)(q:Bool)(o:Oper)(ρ:Operand->Value)(H:zAw)(k:zAn):Prop :=
  match opR P o.op ρ H with
  | .val v=>k v H
  | .pu r=>Mpu r λv=>k v H
  | .rd r=>Mpu r λv=>k v H
  | .wr r=>Mwr r λh=>k undef h
  | .nw T c=>zDA H T c k
  | .nws T len c=>zD1 H T len c k
  | .ap T size bytes s x=>zIU T size bytes H s x k
  | .az T size bytes s x z=>zAd4 T size bytes H s x z k
  | .cp size d s=>zQA size H d s k
  | .sb T s=>zAah T H s k
  | .cl f args=>bif q then zAi8 P f args H k else zA3 P f args H k
  | .cv fv args=>bif q then zDM P fv args H λv h=>Ext H h/\k v h else zDM P fv args H k
  | .mk e l c=>zAl2 P H e l c k
  | .sm s=>zPd P s H k
  | .su s=>Msu P s H k
  | .raw=>zUx P o ρ H k
  | .no=>False
theorem zIo (b o n:Nat):(⟨b,o,none⟩:Addr).add n=⟨b,o+n,none⟩:=by
  unfold Addr.add;split<;>simp_all
theorem zXS {w:World}{b:Nat}{c:Array Value}{T:TypeId}{f:Nat×Nat}(h:w.heap[b]? = some (.cells c T f))(o:Nat):w.cell? ⟨b,o,none⟩=c[o]?:=by
  simp[World.cell?,h]
theorem zJt {P:Program}{T:TypeId}{i:TypeInfo}(h:P.info? T=some i)(w:World):(typeInfo T).run P w = .ok i w:=by
  simp[typeInfo,h]
theorem zCB {P:Program}{T:TypeId}{d:TypeDesc}(h:P.underlying T=some d)(w:World):(underlying T).run P w = .ok d w:=by
  simp[underlying,h]
theorem zQZ {P:Program}{T:TypeId}{d:TypeDesc}(h:P.underlying T=some d):∃ i,P.info? T=some i:=by
  unfold Program.underlying at h
  cases hi:P.info? T with
  | none=>simp[hi]at h
  | some i=>exact⟨i,rfl⟩
theorem zUK {P:Program}{T:TypeId}(h:P.cellsOf T≠0):∃ i,P.info? T=some i/\i.size=P.cellsOf T:=by
  unfold Program.cellsOf at *
  cases hi:P.info? T with
  | none=>simp[hi]at h
  | some i=>exact⟨i,rfl,by simp⟩
theorem zEj {P:Program}{T:TypeId}{i:TypeInfo}(h:P.info? T=some i)(w:World):(sizeOf T).run P w = .ok (P.cellsOf T) w:=by
  simp[sizeOf,zJt h,Program.cellsOf,h]
theorem zQ0 {P:Program}{T:TypeId}{d:TypeDesc}(h:P.underlying T=some d)(w:World):(isAgg T).run P w = .ok (zMV P T) w:=by
  unfold isAgg zMV
  rw[Sem.run_bind,zCB h w,h]
  cases d<;>simp
theorem zYV {P:Program}{T:TypeId}(h:zMV P T=true):∃ d,P.underlying T=some d:=by
  unfold zMV at h
  cases hu:P.underlying T with
  | none=>simp[hu]at h
  | some d=>exact⟨d,rfl⟩
theorem zWn {P:Program}{w:World}{a:Addr}:(loadCells a 0).run P w = .ok #[] w:=run_loadCells_list (P:=P) w a [] (λj v hv=>by cases hv)
theorem zTo {P:Program}{w:World}{b o n:Nat}{c:Array Value}{T:TypeId}{f:Nat×Nat}(h:w.heap[b]? = some (.cells c T f))(hn:o+n<=c.size) :
    (loadCells ⟨b,o,none⟩ n).run P w = .ok (c.extract o (o+n)) w:=by
  have hl:=run_loadCells_list (P:=P) w ⟨b,o,none⟩ (c.extract o (o+n)).toList (λj v hv=>by
    rw[zIo,zXS h]
    have hj:j<n:=by
      have:=(zAP.1 hv).1
      simp at this;omega
    rw[Array.getElem?_toList,Array.getElem?_extract]at hv
    rw[if_pos (by omega)]at hv
    exact hv)
  have e:(c.extract o (o+n)).toList.length=n:=by simp;omega
  rw[e]at hl
  rw[hl]
theorem zYW {P:Program}{b o:Nat}{T:TypeId}{f:Nat×Nat}:∀ (vs:List Value) (i:Nat) (c:Array Value) (w:World),w.heap[b]? = some (.cells c T f)->o+i+vs.length<=c.size ->
    zUJ f (o+i) vs.length=true->(∀ v∈vs,v.oneCell'=true) ->
    (storeCells ⟨b,o,none⟩ vs i).run P w = .ok () { w with heap:=w.heap.setIfInBounds b (.cells (c.toList.take (o+i)++vs++c.toList.drop (o+i+vs.length)).toArray T f) }
  | [],i,c,w,hg,_,_,_=>by
    have hb:=(zBg.1 hg)
    obtain⟨hb1,hb2⟩:=hb
    simp only[storeCells,zAN,List.length_nil,zAu,zBu,Array.toArray_toList]
    have:w.heap.setIfInBounds b (.cells c T f)=w.heap:=by
      apply Array.ext_getElem?
      intro k
      rw[zAD]
      split
      · rename_i e;subst e;simp[hb1,hb2]
      · rfl
    rw[this]
    rfl
  | v::rest,i,c,w,hg,hl,hz,h1=>by
    have hi:o+i<c.size:=by simp at hl;omega
    have hb1:=(zBg.1 hg).1
    have hfro:w.frozen? ⟨b,o+i,none⟩=false:=by
      simp only[World.frozen?,hg]
      simp only[zUJ,zAQ,zB4,decide_eq_true_eq]at hz
      simp only[Bool.and_eq_false_iff,decide_eq_false_iff_not]
      omega
    have hset:w.setCell ⟨b,o+i,none⟩ v = { w with heap:=w.heap.setIfInBounds b (.cells (c.setIfInBounds (o+i) v) T f) }:=by
      unfold World.setCell
      congr 1
      apply Array.ext_getElem?
      intro k
      rw[Array.getElem?_modify,zAD]
      split
      · rename_i e;subst e;rw[hg];simp[hb1]
      · rfl
    have hst:(store ((⟨b,o,none⟩:Addr).add i) v).run P w = .ok () { w with heap:=w.heap.setIfInBounds b (.cells (c.setIfInBounds (o+i) v) T f) }:=by
      rw[zIo,run_store P w _ v _ (h1 v (by simp)),zXS hg]
      simp[hfro,hset,hi]
    have ih:=zYW (P:=P) (b:=b) (o:=o) (T:=T) (f:=f) rest (i+1) (c.setIfInBounds (o+i) v) { w with heap:=w.heap.setIfInBounds b (.cells (c.setIfInBounds (o+i) v) T f) }
      (by simp[hb1]) (by simp at hl ⊢;omega) (by
        simp only[zUJ,zAQ,zB4,decide_eq_true_eq]at hz ⊢
        omega) (λx hx=>h1 x (by simp[hx]))
    have e:=list_seg_step c.toList (o+i) v rest (by simp at hl ⊢;omega)
    have e':List.take (o+(i+1)) (c.setIfInBounds (o+i) v).toList++rest++List.drop (o+(i+1)+rest.length) (c.setIfInBounds (o+i) v).toList =
        List.take (o+i) c.toList++v::rest++List.drop (o+i+(v::rest).length) c.toList:=by
      simpa [zB5,Nat.add_assoc] using e
    simp only[storeCells,Sem.run_bind,hst,Result.andThen_ok,ih,e',Array.setIfInBounds_setIfInBounds]
theorem zPf {P:Program}{o:Oper}{ρ:Operand->Value}{H:zAw}{k:zAn}{v:Value}
    (h:∀ w,w.heap=H->(execOp ρ o).run P w = .ok (.value v) w) (hk:k v H):zUx P o ρ H k :=
  λw hw=>⟨.value v,w,h w hw,zJs.rfl' w,.inl ⟨v,rfl,hw ▸ hk⟩⟩
theorem zUy {P:Program}{o:Oper}{ρ:Operand->Value}{H H':zAw}{k:zAn}{v:Value}
    (h:∀ w,w.heap=H->(execOp ρ o).run P w = .ok (.value v) { w with heap:=H' }) (hk:k v H') (hs:zFT H H'):zUx P o ρ H k :=
  λw hw=>⟨.value v,_,h w hw,⟨rfl,rfl,rfl,by rw[hw];exact hs⟩,.inl ⟨v,rfl,hk⟩⟩
theorem zVr {P:Program}{o:Oper}{ρ:Operand->Value}{H H':zAw}{k:zAn}
    (h:∀ w,w.heap=H->(execOp ρ o).run P w = .ok .skip { w with heap:=H' }) (hk:k undef H') (hs:zFT H H'):zUx P o ρ H k :=
  λw hw=>⟨.skip,_,h w hw,⟨rfl,rfl,rfl,by rw[hw];exact hs⟩,.inr ⟨rfl,hk⟩⟩
theorem zQ1 {H H':zAw}{b o:Nat}{vs:Array Value}(h:stA H b o vs=some H'):zFT H H':=by
  unfold stA at h
  split at h
  · rename_i hb;split at h
    · cases h;exact zFT.set hb
    · cases h
  · cases h
theorem zAbx {H H':zAw}{p v:Value}(h:st1 H p v=some H'):zFT H H':=by
  unfold st1 at h
  split at h
  · split at h
    · rename_i hb;split at h
      · cases h;exact zFT.set hb
      · cases h
    · cases h
  · cases h
theorem zAby {n:Nat}{H H':zAw}{p v:Value}(h:stN n H p v=some H'):zFT H H':=by
  unfold stN at h
  split at h
  · split at h
    · exact zQ1 h
    · cases h
  · cases h
theorem zTp {P:Program}{T:TypeId}(h:zAbh P T=true):(∃ d,P.underlying T=some d)/\zMV P T=false/\P.cellsOf T=1:=by
  unfold zAbh at h
  simp only[zAk,zB6,zBz]at h
  exact⟨h.1.1,h.2,zA6 h.1.2⟩
theorem zWo {P:Program}{T:TypeId}{p v:Value}{H:zAw}(hT:∃ d,P.underlying T=some d)(ha:zMV P T=false)(h:ld1 H p=some v)(w:World)(hw:w.heap=H) :
    (Instr.loadAt T p).run P w = .ok v w:=by
  subst hw
  unfold ld1 at h
  split at h
  · rename_i b o
    split at h
    · rename_i c t f hg
      obtain⟨d,hd⟩:=hT
      simp[Instr.loadAt,Instr.sureAddr,loadVar,zQ0 hd,ha,zXS hg,h]
    · cases h
  · cases h
theorem zWp {P:Program}{T:TypeId}{p v:Value}{H:zAw}(ha:zMV P T=true)(h:ldN (P.cellsOf T) H p=some v)(w:World)(hw:w.heap=H) :
    (Instr.loadAt T p).run P w = .ok v w:=by
  subst hw
  unfold ldN at h
  split at h
  · rename_i b o
    split at h
    · rename_i c t f hg
      split at h
      · rename_i hle
        obtain⟨d,hd⟩:=zYV ha
        obtain⟨i,hi⟩:=zQZ hd
        cases h
        simp[Instr.loadAt,Instr.sureAddr,loadVar,zQ0 hd,ha,zEj hi,zTo hg hle]
      · cases h
    · cases h
  · cases h
theorem zAai {P:Program}{T:TypeId}{p v:Value}{H H':zAw}(hs:P.cellsOf T=1)(h:st1 H p v=some H')(w:World)(hw:w.heap=H) :
    (Instr.storeAt T p v).run P w = .ok () { w with heap:=H' }:=by
  subst hw
  obtain⟨i,hi,his⟩:=zUK (P:=P) (T:=T) (by omega)
  unfold st1 at h
  split at h
  · rename_i b o
    split at h
    · rename_i c t f hg
      split at h
      · rename_i hc
        cases h
        have hone:v.cells=#[v]:=by
          have:=hc.2.2
          cases v<;>simp_all [Value.cells,Value.oneCell']
        have hst:=zYW (P:=P) (b:=b) (o:=o) (T:=t) (f:=f) [v] 0 c w hg (by simp;omega) (by simpa using hc.2.1) (by simpa using hc.2.2)
        simp only[Instr.storeAt,Instr.sureAddr,storeVar,hone,Sem.run_bind,Sem.run_pure,Result.andThen_ok,zEj hi,hs]
        simp only[zCe,zAQ,List.length_nil,ne_eq,not_true_eq_false,if_false,zAg]
        simp only[Sem.run_pure,Result.andThen_ok,hst]
        congr 2
        apply Array.ext_getElem?
        intro k
        rw[zAD,zAD]
        split
        · congr 3
          apply Array.ext'
          have ho:=hc.1
          apply zCP
          intro j
          simp only[zAu,zAQ,List.length_nil,zAg,zB5,List.getElem?_set,zBc,List.getElem?_append,zAZ,Array.length_toList,zCl]
          by_cases h1:j<o
          · simp[h1,show o≠j by omega,show min o c.size=o by omega]
          · by_cases h2:j=o
            · subst h2;simp[show min j c.size=j by omega,ho]
            · simp[show min o c.size=o by omega,h1,show o≠j by omega,show j-o≠0 by omega,show ¬ (j-o=0) by omega]
              simp[show o+1+(j-o-1)=j by omega]
        · rfl
      · cases h
    · cases h
  · cases h
theorem zAaj {P:Program}{T:TypeId}{p v:Value}{H H':zAw}(hT:zMV P T=true)(h:stN (P.cellsOf T) H p v=some H')(w:World)(hw:w.heap=H) :
    (Instr.storeAt T p v).run P w = .ok () { w with heap:=H' }:=by
  subst hw
  obtain⟨d,hd⟩:=zYV hT
  obtain⟨i,hi⟩:=zQZ hd
  unfold stN at h
  split at h
  · rename_i b o vs
    split at h
    · rename_i hsz
      unfold stA at h
      split at h
      · rename_i c t f hg
        split at h
        · rename_i hc
          cases h
          have hst:=zYW (P:=P) (b:=b) (o:=o) (T:=t) (f:=f) vs.toList 0 c w hg (by simp;omega) (by simpa using hc.2.1) (by
            intro v hv
            exact(zBw.1 hc.2.2) v (by simpa using hv))
          simp only[Instr.storeAt,Instr.sureAddr,storeVar,Value.cells,Sem.run_bind,Sem.run_pure,Result.andThen_ok,zEj hi]
          simp only[ne_eq,hsz,not_true_eq_false,if_false,Sem.run_pure,Result.andThen_ok]
          rw[hst]
          simp[spl,hsz]
        · cases h
      · cases h
    · cases h
  · cases h
section
variable {P:Program} {w:World}
theorem zAec {c a b v:Value}(h:zBH c a b=some v):(do pure (if <- asBool c then a else b):Sem Value).run P w = .ok v w:=by
  cases c<;>simp[zBH]at h
  subst h
  simp[asBool]
theorem zAbz {T:TypeId}{cs:Array Value}(h:zBE P T=some cs):(Instr.alloc T true (.tuple #[])).run P w = .ok (.pointer (some ⟨w.heap.size,0,none⟩)) { w with heap:=w.heap.push (.cells cs T (0,0)) }:=by
  unfold zBE at h
  cases hi:P.info? T with
  | none=>simp[hi]at h
  | some i =>
    simp only[hi,zAY]at h
    cases hz:i.zero with
    | none=>simp[hz]at h
    | some z =>
      simp only[hz,zAR,zAm]at h
      subst h
      simp[Instr.alloc,zeroValue,zJt hi,hz,newVar,newRow]
theorem zAed {T:TypeId}{cs:Array Value}(h:zBE P T=some cs):∃ z,(zeroValue T).run P w = .ok z w/\z.cells=cs:=by
  unfold zBE at h
  cases hi:P.info? T with
  | none=>simp[hi]at h
  | some i =>
    simp only[hi,zAY]at h
    cases hz:i.zero with
    | none=>simp[hz]at h
    | some z =>
      simp only[hz,zAR,zAm]at h
      exact⟨z,by simp[zeroValue,zJt hi,hz],h⟩
theorem zAg2 {T:TypeId}{v:Value}:(Instr.box T v).run P w = .ok (.pointer (some ⟨w.heap.size,0,none⟩)) { w with heap:=w.heap.push (.cells v.cells T (0,0)) }:=by
  simp[Instr.box,newVar,newRow]
theorem zAg3 {o:Oper}{ρ:Operand->Value}{x:Operand}(ho:o.op = .nilCheck x){v:Value}(h:nck (ρ x)=some v):(execOp ρ o).run P w = .ok (.value v) w:=by
  unfold execOp
  rw[ho]
  simp only[]
  unfold nck at h
  split at h
  · rename_i a e;rw[e];cases h;rfl
  · rename_i f a b e;rw[e];cases h;rfl
  · cases h
theorem zAg4 {S f:Nat}{p v:Value}{fs:Array Field}{fd:Field}(hu:P.underlying S=some (.struct fs))(hf:fs[f]? = some fd)(hs:P.cellsOf fd.type≠0)(h:fld fd.offset p=some v) :
    (Instr.fieldAt S p f).run P w = .ok v w:=by
  obtain⟨i,hi,his⟩:=zUK hs
  unfold fld at h
  split at h
  · rename_i b o
    cases h
    have hs':¬ P.cellsOf fd.type=0:=hs
    simp[Instr.fieldAt,zCB hu,hf,Instr.sureAddr,fieldPlace,zEj hi,hs',zIo]
  · cases h
theorem zS4 {T:TypeId}{d:TypeDesc}(hu:P.underlying T=some d){off:Nat}{cs:Array Value}{v:Value}(h:zVp (zMV P T) (P.cellsOf T) off (.agg cs)=some v) :
    (part T cs off).run P w = .ok v w:=by
  obtain⟨i,hi⟩:=zQZ hu
  unfold zVp at h
  simp only at h
  unfold part
  cases ha:zMV P T with
  | true =>
    simp only[ha,if_true,zAm]at h
    simp[zQ0 hu,ha,zEj hi,h]
  | false =>
    simp only[ha,zAb,if_false]at h
    simp[zQ0 hu,ha,h]
theorem zAg5 {T e:TypeId}(hu:P.underlying T=some (.slice e))(he:∃ i,P.info? e=some i){x i v:Value}(h:ixS (P.cellsOf e) x i=some v) :
    (Instr.indexAt T x i).run P w = .ok v w:=by
  obtain⟨ie,hie⟩:=he
  unfold ixS at h
  split at h
  · rename_i b o len cap k n
    split at h
    · rename_i hc
      cases h
      simp[Instr.indexAt,asIntOf,zCB hu,hc,zEj hie,zIo]
    · cases h
  · cases h
theorem zAg6 {T e:TypeId}{n:Nat}(hu:P.underlying T=some (.array n e))(he:∃ i,P.info? e=some i){x i v:Value}(h:ixA n (P.cellsOf e) x i=some v) :
    (Instr.indexAt T x i).run P w = .ok v w:=by
  obtain⟨ie,hie⟩:=he
  unfold ixA at h
  split at h
  · rename_i b o k n
    split at h
    · rename_i hc
      cases h
      simp[Instr.indexAt,asIntOf,zCB hu,Instr.sureAddr,hc,zEj hie,zIo]
    · cases h
  · cases h
theorem zAg7 {T:TypeId}(hu:P.underlying T=some .string){x i v:Value}(h:ixT x i=some v):(Instr.index T x i).run P w = .ok v w:=by
  unfold ixT at h
  split at h
  · rename_i s k n
    split at h
    · rename_i hn
      cases hs:s[n.toNat]? with
      | none=>simp[hs]at h
      | some b =>
        simp only[hs,zAR,zAm]at h
        simp[Instr.index,asIntOf,zCB hu,hn,hs,h]
    · cases h
  · cases h
theorem zAg8 {T e:TypeId}{n:Nat}(hu:P.underlying T=some (.array n e)){d:TypeDesc}(he:P.underlying e=some d){x i v:Value}(h:ixV n (zMV P e) (P.cellsOf e) x i=some v) :
    (Instr.index T x i).run P w = .ok v w:=by
  obtain⟨ie,hie⟩:=zQZ he
  unfold ixV at h
  split at h
  · rename_i cs k i
    split at h
    · rename_i hc
      have hp:=zS4 (P:=P) (w:=w) he (off:=i.toNat*P.cellsOf e) (cs:=cs) (v:=v) (by unfold zVp;exact h)
      simp[Instr.index,asIntOf,zCB hu,hc,zEj hie,hp]
    · cases h
  · cases h
theorem zAg9 {T:TypeId}{op:BinOp}{k:IntKind}{a b:Int}{v:Value}(h:zC3 op k a b=some v):(binOp op T (.int k a) (.int k b)).run P w = .ok v w:=by
  cases op<;>simp only[zC3,zAm]at h<;>first
    | (subst h;simp[binOp,Op.intArith,Op.intBits,Op.intCmp];done)
    | (split at h
       · cases h
       · rename_i hb
         simp only[zAm]at h
         subst h
         simp[binOp,Op.intDiv,Op.shift,hb])
theorem zWq {T:TypeId}{op:BinOp}{k k':IntKind}{a b:Int}{v:Value}(ho:op = .shl\/op = .shr)(h:zC3 op k a b=some v):(binOp op T (.int k a) (.int k' b)).run P w = .ok v w:=by
  rcases ho with rfl|rfl <;>
  · simp only[zC3]at h
    split at h
    · cases h
    · rename_i hb
      simp only[zAm]at h
      subst h
      simp[binOp,Op.shift,hb]
theorem zAha {T:TypeId}{op:BinOp}{a b:ByteArray}{v:Value}(h:zS3 op a b=some v):(binOp op T (.string a) (.string b)).run P w = .ok v w:=by
  cases op<;>simp only[zS3,zAm]at h<;>first
    | (cases h;done)
    | (subst h;simp[binOp,Op.stringOp];done)
    | (split at h
       · cases h
       · rename_i hb
         simp only[zAm]at h
         subst h
         simp only[binOp,Op.stringOp]
         rw[if_neg hb]
         rfl)
theorem zAi9 {op:UnOp}{x v:Value}(h:unV op x=some v):(Op.unary op x).run P w = .ok v w:=by
  cases x<;>cases op<;>simp[unV]at h<;>(subst h;simp[Op.unary,Op.intArith,Op.intBits])
theorem zAhb {x v:Value}{i:Nat}(h:zFg i x=some v):(Instr.extract x i).run P w = .ok v w:=by
  cases x<;>simp only[zFg]at h<;>first
    | (cases h;done)
    | simp[Instr.extract,h]
theorem zOh {d top:Nat}{x:Value}{code:BoundsCode}{n:Nat}(h:bnd d top (some x)=some n):(Instr.sliceBound x top code).run P w = .ok n w:=by
  unfold bnd at h
  cases x<;>simp only[reduceCtorEq]at h
  rename_i k i
  split at h
  · rename_i hc
    cases h
    simp[Instr.sliceBound,asIntOf,hc]
  · cases h
theorem zVs {isS:Bool}{len cap:Nat}{low high max:Option Value}{l h m:Nat}(hb:zM9 len cap low high max=some (l,h,m))(hm:(max.isSome&&high.isNone)=false) :
    (Instr.sliceBounds isS len cap low high max).run P w = .ok (l,h,m) w:=by
  unfold zM9 at hb
  cases hm':bnd cap cap max with
  | none=>simp[hm']at hb
  | some m' =>
    simp only[hm',zAY]at hb
    cases hh':bnd len m' high with
    | none=>simp[hh']at hb
    | some h' =>
      simp only[hh',zAY]at hb
      cases hl':bnd 0 h' low with
      | none=>simp[hl']at hb
      | some l' =>
        simp only[hl',zAR,zAm,Prod.mk.injEq]at hb
        obtain⟨rfl,rfl,rfl⟩:=hb
        cases max with
        | none =>
          simp only[bnd,zAm]at hm'
          subst hm'
          cases high with
          | none =>
            simp only[bnd,zAm]at hh'
            subst hh'
            cases low with
            | none=>simp only[bnd,zAm]at hl';subst hl';simp[Instr.sliceBounds]
            | some lv=>simp[Instr.sliceBounds,zOh hl']
          | some hv =>
            cases low with
            | none=>simp only[bnd,zAm]at hl';subst hl';simp[Instr.sliceBounds,zOh hh']
            | some lv=>simp[Instr.sliceBounds,zOh hh',zOh hl']
        | some mv =>
          cases high with
          | none=>simp at hm
          | some hv =>
            cases low with
            | none=>simp only[bnd,zAm]at hl';subst hl';simp[Instr.sliceBounds,zOh hm',zOh hh']
            | some lv=>simp[Instr.sliceBounds,zOh hm',zOh hh',zOh hl']
theorem zAhc {T e:TypeId}(hu:P.underlying T=some (.slice e))(he:∃ i,P.info? e=some i){x v:Value}{low high max:Option Value}(h:slS (P.cellsOf e) x low high max=some v) :
    (Instr.sliceAt T x low high max).run P w = .ok v w:=by
  obtain⟨ie,hie⟩:=he
  unfold slS at h
  split at h
  · rename_i a len cap
    split at h
    · cases h
    · rename_i hm
      cases hb:zM9 len cap low high max with
      | none=>simp[hb]at h
      | some t =>
        obtain⟨l,hh,m⟩:=t
        have hr:=zVs (P:=P) (w:=w) (isS:=true) hb (by revert hm;cases max.isSome<;>cases high.isNone<;>simp)
        simp only[hb,zAY]at h
        have hfin:(Instr.sliceAt T (.slice a len cap) low high max).run P w = .ok (.slice (if m=l then a else a.map (·.add (l*P.cellsOf e))) (hh-l) (m-l)) w:=by
          simp[Instr.sliceAt,zCB hu,Instr.slice,hr,zEj hie]
        rw[hfin]
        rcases a with _|⟨b,o,_|s⟩
        · simp only[zAm]at h
          subst h
          simp
        · simp only[zAm]at h
          subst h
          by_cases hml:m=l<;>simp[hml,zIo]
        · simp only at h
          split at h
          · rename_i hl0
            simp only[zAm]at h
            subst h hl0
            have h0:(⟨b,o,some s⟩:Addr).add (0*P.cellsOf e)=⟨b,o,some s⟩:=by
              rw[Nat.zero_mul]
              unfold Addr.add
              split<;>simp_all
            by_cases hml:m=0
            · simp[hml]
            · simp only[hml,if_false,zAR,h0,Nat.sub_zero]
          · cases h
  · cases h
theorem zAhd {T e:TypeId}{n:Nat}(hu:P.underlying T=some (.array n e))(he:∃ i,P.info? e=some i){x v:Value}{low high max:Option Value}(h:slA n (P.cellsOf e) x low high max=some v) :
    (Instr.sliceAt T x low high max).run P w = .ok v w:=by
  obtain⟨ie,hie⟩:=he
  unfold slA at h
  split at h
  · rename_i b o
    split at h
    · cases h
    · rename_i hm
      cases hb:zM9 n n low high max with
      | none=>simp[hb]at h
      | some t =>
        obtain⟨l,hh,m⟩:=t
        have hr:=zVs (P:=P) (w:=w) (isS:=false) hb (by revert hm;cases max.isSome<;>cases high.isNone<;>simp)
        simp only[hb,zAR,zAm]at h
        subst h
        by_cases hml:m=l<;>simp[Instr.sliceAt,zCB hu,Instr.sureAddr,hr,zEj hie,hml,zIo]
  · cases h
theorem zAhe {T:TypeId}(hu:P.underlying T=some .string){x v:Value}{low high:Option Value}(h:slT x low high=some v) :
    (Instr.sliceAt T x low high none).run P w = .ok v w:=by
  unfold slT at h
  split at h
  · rename_i s
    cases hb:zM9 s.size s.size low high none with
    | none=>simp[hb]at h
    | some t =>
      obtain⟨l,hh,m⟩:=t
      have hr:=zVs (P:=P) (w:=w) (isS:=false) hb (by simp)
      simp only[hb,zAR,zAm]at h
      subst h
      simp[Instr.sliceAt,zCB hu,Instr.slice,hr]
  · cases h
end
end Go.X
