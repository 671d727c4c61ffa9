import Derived.Calls
import Derived.Orders
import Derived.OrdersIn
import Derived.RangeFuncIn
import Derived.RangeFuncCalls
import Derived.RangeFuncLeaves
import Derived.Laws.CopyRow
import Derived.Laws.Rows
import Derived.Laws.MakeOwn
import Derived.Laws.StructEq
import Derived.Laws.Unary
import Derived.Laws.Slices
set_option linter.unusedSimpArgs false
set_option linter.unusedVariables false
namespace Go.X
theorem zBA:type_of% @Array.all_eq_true_iff_forall_mem:=@Array.all_eq_true_iff_forall_mem
theorem zBx:type_of% @Array.getD_eq_getD_getElem?:=@Array.getD_eq_getD_getElem?
theorem zBv:type_of% @Array.getElem?_eq_getElem:=@Array.getElem?_eq_getElem
theorem zBk:type_of% @Array.getElem?_eq_some_iff:=@Array.getElem?_eq_some_iff
theorem zCf:type_of% @Array.getElem?_push:=@Array.getElem?_push
theorem zAE:type_of% @Array.getElem?_setIfInBounds:=@Array.getElem?_setIfInBounds
theorem zBy:type_of% @Array.mem_toList_iff:=@Array.mem_toList_iff
theorem zCa:type_of% @Array.toList_setIfInBounds:=@Array.toList_setIfInBounds
theorem zAk:type_of% @Bool.and_eq_true:=@Bool.and_eq_true
theorem zBG:type_of% @Bool.and_false:=@Bool.and_false
theorem zAR:type_of% @Bool.eq_iff_iff:=@Bool.eq_iff_iff
theorem zA2:type_of% @Bool.false_and:=@Bool.false_and
theorem zAb:type_of% @Bool.false_eq_true:=@Bool.false_eq_true
theorem zCs:type_of% @Bool.false_or:=@Bool.false_or
theorem zBt:type_of% @Bool.not_eq_true':=@Bool.not_eq_true'
theorem zAf:type_of% @Bool.not_false:=@Bool.not_false
theorem zAg:type_of% @Bool.not_true:=@Bool.not_true
theorem zB9:type_of% @Bool.or_eq_true:=@Bool.or_eq_true
theorem zBa:type_of% @Bool.true_and:=@Bool.true_and
theorem zAc:type_of% @Bool.true_eq_false:=@Bool.true_eq_false
theorem zCQ:type_of% @Int.tdiv_eq_ediv_of_nonneg:=@Int.tdiv_eq_ediv_of_nonneg
theorem zCS:type_of% @Int.toNat_natCast:=@Int.toNat_natCast
theorem zCO:type_of% @List.all_append:=@List.all_append
theorem zCt:type_of% @List.all_eq_false:=@List.all_eq_false
theorem zAw:type_of% @List.all_eq_true:=@List.all_eq_true
theorem zCu:type_of% @List.any_eq_false:=@List.any_eq_false
theorem zBz:type_of% @List.any_eq_true:=@List.any_eq_true
theorem zBg:type_of% @List.append_assoc:=@List.append_assoc
theorem zAP:type_of% @List.append_nil:=@List.append_nil
theorem zCA:type_of% @List.cons_append:=@List.cons_append
theorem zCc:type_of% @List.drop_append_of_le_length:=@List.drop_append_of_le_length
theorem zCy:type_of% @List.drop_drop:=@List.drop_drop
theorem zBU:type_of% @List.drop_eq_getElem_cons:=@List.drop_eq_getElem_cons
theorem zC9:type_of% @List.drop_eq_nil_of_le:=@List.drop_eq_nil_of_le
theorem zCz:type_of% @List.drop_take:=@List.drop_take
theorem zB4:type_of% @List.drop_zero:=@List.drop_zero
theorem zCT:type_of% @List.ext_getElem?:=@List.ext_getElem?
theorem zCd:type_of% @List.filter_cons:=@List.filter_cons
theorem zC6:type_of% @List.find?_cons:=@List.find?_cons
theorem zCq:type_of% @List.find?_eq_none:=@List.find?_eq_none
theorem zCx:type_of% @List.findSome?_cons:=@List.findSome?_cons
theorem zBr:type_of% @List.flatten_append:=@List.flatten_append
theorem zA5:type_of% @List.flatten_cons:=@List.flatten_cons
theorem zCp:type_of% @List.flatten_nil:=@List.flatten_nil
theorem zCk:type_of% @List.getD_eq_getElem?_getD:=@List.getD_eq_getElem?_getD
theorem zBe:type_of% @List.getElem?_append_right:=@List.getElem?_append_right
theorem zC4:type_of% @List.getElem?_cons_succ:=@List.getElem?_cons_succ
theorem zC5:type_of% @List.getElem?_cons_zero:=@List.getElem?_cons_zero
theorem zC7:type_of% @List.getElem?_drop:=@List.getElem?_drop
theorem zAj:type_of% @List.getElem?_eq_getElem:=@List.getElem?_eq_getElem
theorem zDj:type_of% @List.getElem?_eq_none:=@List.getElem?_eq_none
theorem zAV:type_of% @List.getElem?_eq_some_iff:=@List.getElem?_eq_some_iff
theorem zAq:type_of% @List.getElem?_map:=@List.getElem?_map
theorem zCr:type_of% @List.getElem?_take:=@List.getElem?_take
theorem zDk:type_of% @List.getElem?_toArray:=@List.getElem?_toArray
theorem zAH:type_of% @List.getElem_mem:=@List.getElem_mem
theorem zBK:type_of% @List.getElem_of_mem:=@List.getElem_of_mem
theorem zAt:type_of% @List.length_append:=@List.length_append
theorem zAS:type_of% @List.length_cons:=@List.length_cons
theorem zC1:type_of% @List.length_drop:=@List.length_drop
theorem zBo:type_of% @List.length_eq_zero_iff:=@List.length_eq_zero_iff
theorem zBi:type_of% @List.length_filter_le:=@List.length_filter_le
theorem zAd:type_of% @List.length_map:=@List.length_map
theorem zC2:type_of% @List.length_reverse:=@List.length_reverse
theorem zBc:type_of% @List.length_singleton:=@List.length_singleton
theorem zA4:type_of% @List.length_take:=@List.length_take
theorem zAF:type_of% @List.map_append:=@List.map_append
theorem zBW:type_of% @List.map_congr_left:=@List.map_congr_left
theorem zA0:type_of% @List.map_cons:=@List.map_cons
theorem zCD:type_of% @List.map_take:=@List.map_take
theorem zAp:type_of% @List.mem_append:=@List.mem_append
theorem zAs:type_of% @List.mem_cons:=@List.mem_cons
theorem zCY:type_of% @List.mem_cons_of_mem:=@List.mem_cons_of_mem
theorem zBd:type_of% @List.mem_filter:=@List.mem_filter
theorem zAo:type_of% @List.mem_map:=@List.mem_map
theorem zCE:type_of% @List.mem_of_find?_eq_some:=@List.mem_of_find?_eq_some
theorem zAC:type_of% @List.mem_of_getElem?:=@List.mem_of_getElem?
theorem zBw:type_of% @List.mem_of_mem_take:=@List.mem_of_mem_take
theorem zBC:type_of% @List.mem_range:=@List.mem_range
theorem zAD:type_of% @List.mem_singleton:=@List.mem_singleton
theorem zAY:type_of% @List.nil_append:=@List.nil_append
theorem zCH:type_of% @List.nodup_append:=@List.nodup_append
theorem zCP:type_of% @List.nodup_cons:=@List.nodup_cons
theorem zB6:type_of% @List.nodup_iff_pairwise_ne:=@List.nodup_iff_pairwise_ne
theorem zCL:type_of% @List.not_mem_nil:=@List.not_mem_nil
theorem zCg:type_of% @List.pairwise_cons:=@List.pairwise_cons
theorem zBH:type_of% @List.pairwise_iff_getElem:=@List.pairwise_iff_getElem
theorem zBu:type_of% @List.pairwise_map:=@List.pairwise_map
theorem zCU:type_of% @List.reverse_cons:=@List.reverse_cons
theorem zCR:type_of% @List.set_append_right:=@List.set_append_right
theorem zB7:type_of% @List.size_toArray:=@List.size_toArray
theorem zAG:type_of% @List.take_add_one:=@List.take_add_one
theorem zBl:type_of% @List.take_append_drop:=@List.take_append_drop
theorem zBj:type_of% @List.take_append_of_le_length:=@List.take_append_of_le_length
theorem zBE:type_of% @List.take_length:=@List.take_length
theorem zAr:type_of% @List.take_of_length_le:=@List.take_of_length_le
theorem zBX:type_of% @List.take_succ_cons:=@List.take_succ_cons
theorem zDf:type_of% @List.take_take:=@List.take_take
theorem zA9:type_of% @List.toList_toArray:=@List.toList_toArray
theorem zCK:type_of% @Nat.add_sub_cancel_left:=@Nat.add_sub_cancel_left
theorem zAu:type_of% @Nat.add_zero:=@Nat.add_zero
theorem zB1:type_of% @Nat.beq_refl:=@Nat.beq_refl
theorem zA3:type_of% @Nat.eq_of_beq_eq_true:=@Nat.eq_of_beq_eq_true
theorem zDa:type_of% @Nat.le_of_ble_eq_true:=@Nat.le_of_ble_eq_true
theorem zAh:type_of% @Nat.le_refl:=@Nat.le_refl
theorem zBh:type_of% @Nat.le_trans:=@Nat.le_trans
theorem zAM:type_of% @Nat.lt_of_lt_of_le:=@Nat.lt_of_lt_of_le
theorem zBN:type_of% @Nat.min_eq_left:=@Nat.min_eq_left
theorem zBq:type_of% @Nat.mul_le_mul_right:=@Nat.mul_le_mul_right
theorem zCB:type_of% @Nat.mul_one:=@Nat.mul_one
theorem zCV:type_of% @Nat.pow_add:=@Nat.pow_add
theorem zBL:type_of% @Nat.pow_le_pow_right:=@Nat.pow_le_pow_right
theorem zCF:type_of% @Nat.succ_mul:=@Nat.succ_mul
theorem zAi:type_of% @Nat.zero_add:=@Nat.zero_add
theorem zAz:type_of% @Nat.zero_le:=@Nat.zero_le
theorem zAZ:type_of% @Option.bind_some:=@Option.bind_some
theorem zCb:type_of% @Option.isSome_iff_exists:=@Option.isSome_iff_exists
theorem zBF:type_of% @Option.map_eq_some_iff:=@Option.map_eq_some_iff
theorem zAT:type_of% @Option.map_some:=@Option.map_some
theorem zAN:type_of% @Option.some.inj:=@Option.some.inj
theorem zAn:type_of% @Option.some.injEq:=@Option.some.injEq
abbrev zAx:=Array Obj
abbrev zAm:=Value->zAx->Prop
abbrev zA1:=Nat->Prop
abbrev zAK:Nat->Prop:=λ_=>False
def zF5 (H H':zAx):Prop:=∀ (i:Nat) (ds:Option (List Deferred)),H[i]? = some (Obj.deferred ds)->H'[i]? = some (Obj.deferred ds)
theorem zF5.rfl' {H:zAx}:zF5 H H:=λ_ _ h=>h
theorem zF5.trans {a b c:zAx}(h:zF5 a b)(k:zF5 b c):zF5 a c:=λi ds hi=>k i ds (h i ds hi)
theorem zF5.push {H:zAx}{o:Obj}:zF5 H (H.push o):=λi ds h=>by
  have:=(zBk.1 h).1
  rw[zCf,if_neg (by omega)];exact h
theorem zF5.set {H:zAx}{b:Nat}{c c':Array Value}{T T':TypeId}{f f':Nat×Nat}(hb:H[b]? = some (.cells c T f)):zF5 H (H.setIfInBounds b (.cells c' T' f')):=λi ds h=>by
  rw[zAE]
  split
  · rename_i e;subst e;rw[hb]at h;cases h
  · exact h
structure zJI (w w':World):Prop where
  os:w'.os=w.os
  tape:w'.tape=w.tape
  output:w'.output=w.output
  solid:zF5 w.heap w'.heap
theorem zJI.rfl' (w:World):zJI w w:=⟨rfl,rfl,rfl,zF5.rfl'⟩
theorem zJI.trans {a b c:World}(h:zJI a b)(k:zJI b c):zJI a c :=
  ⟨k.os.trans h.os,k.tape.trans h.tape,k.output.trans h.output,h.solid.trans k.solid⟩
def zAA (P:Program)(f:FuncId)(args:List Value)(H:zAx)(R:zAm):Prop :=
  ∀ w:World,w.heap=H->Calls P f args.toArray w λe w'=>∃ v,e = .returned v/\zJI w w'/\R v w'.heap
theorem zAA.mono {P:Program}{f:FuncId}{args:List Value}{H:zAx}{R R':zAm}(h:zAA P f args H R)(k:∀ v h,R v h->R' v h):zAA P f args H R' :=
  λw hw=>(h w hw).mono λ_ _ ⟨v,e,s,r⟩=>⟨v,e,s,k _ _ r⟩
def zTQ (P:Program)(l:Nat)(args:List Value)(H:zAx)(R:zAm):Prop :=
  ∀ w:World,w.heap=H->∃ f tmps assign body,(Instr.yield l args.toArray).run P w = .ok (.round l f tmps assign body) w /\
    RoundIn Fence.wide 0 P l f tmps assign body w λe w'=>∃ v,e = .returned v/\zJI w w'/\R v w'.heap
theorem zTQ.mono {P:Program}{l:Nat}{args:List Value}{H:zAx}{R R':zAm}(h:zTQ P l args H R)(k:∀ v h,R v h->R' v h):zTQ P l args H R':=λw hw =>
  let ⟨f,t,a,b,e,r⟩:=h w hw
  ⟨f,t,a,b,e,r.mono λ_ _ ⟨v,e,s,r⟩=>⟨v,e,s,k _ _ r⟩⟩
abbrev Env:=Nat->Value
def Env.put (e:Env)(d:Option Nat)(v:Value):Env :=
  match d with
  | some d=>λi=>bif Nat.beq i d then v else e i
  | none=>e
def ev (e:Env):Operand->Value
  | .tmp t=>e t
  | .const v=>v
  | .global g => .pointer (some ⟨g,0,none⟩)
  | .func f => .func (.func f) #[] #[]
def Mpu (o:Option Value)(k:Value->Prop):Prop:=∃ v,o=some v/\k v
def Mwr (o:Option zAx)(k:zAx->Prop):Prop:=∃ h,o=some h/\k h
def zDC (H:zAx)(T:TypeId)(c:Option (Array Value))(k:zAm):Prop :=
  ∃ cs,c=some cs/\k (.pointer (some ⟨H.size,0,none⟩)) (H.push (.cells cs T (0,0)))
def zAX (P:Program)(f:FuncId)(args:List Value)(H:zAx)(k:zAm):Prop:=zAA P f args H k
def zPt (P:Program)(f:FuncId):Bool:=match P.funcs[f]? with
  | some fn=>fn.body.isSome&&fn.name != "runtime.NumGoroutine"
  | none=>false
def zDQ (P:Program)(fv:Value)(args:List Value)(H:zAx)(k:zAm):Prop :=
  (∃ f fi ca,fv = .func (.func f) fi ca/\zPt P f=true/\zAA P f (fi.toList++args++ca.toList) H k) \/
  ∃ l fi ca,fv = .func (.yield l) fi ca/\zTQ P l (fi.toList++args) H k
theorem zDQ.mono {P:Program}{fv:Value}{args:List Value}{H:zAx}{R R':zAm}(h:zDQ P fv args H R)(k:∀ v h,R v h->R' v h):zDQ P fv args H R':=by
  rcases h with ⟨f,fi,ca,e,b,h⟩|⟨l,fi,ca,e,h⟩
  · exact .inl ⟨f,fi,ca,e,b,h.mono k⟩
  · exact .inr ⟨l,fi,ca,e,h.mono k⟩
def zQx (P:Program)(s:Sem Value)(H:zAx)(k:zAm):Prop :=
  ∀ w:World,w.heap=H->∃ v w',s.run P w = .ok v w'/\zJI w w'/\k v w'.heap
def Msu (P:Program)(s:Sem Unit)(H:zAx)(k:zAm):Prop :=
  ∀ w:World,w.heap=H->∃ w',s.run P w = .ok () w'/\zJI w w'/\k undef w'.heap
def zAb2 (P:Program)(f:FuncId):Option (Array Value->Sem Value):=match P.funcs[f]? with
  | some fn=>bif fn.body.isNone&&(fn.name != "runtime.NumGoroutine")&&(Extern.findNext fn).isNone then Extern.find fn else none
  | none=>none
def xtV (P:Program)(f:FuncId)(args:Array Value):Sem Value:=match zAb2 P f with
  | some e=>e args
  | none=>stuck "no row"
def usd:Value->Option Value
  | .slice none _ _=>some (.pointer none)
  | .slice (some a) _ c=>if c≠0 then some (.pointer (some a)) else none
  | _=>none
def Ext (H H':zAx):Prop:=H.size<=H'.size/\∀ i,i<H.size->H'[i]? = H[i]?
def zAjC (P:Program)(f:FuncId)(args:List Value)(H:zAx)(k:zAm):Prop:=zAA P f args H λv h=>Ext H h/\k v h
def Mif (c:Value)(want:Bool)(yes no:Prop):Prop:=(∃ b,c = .bool b/\(b=want->yes)/\(b=(!want)->no))\/((∀ b,c ≠ .bool b)/\no)
def Mcd (c:Value)(yes no:Prop):Prop:=∃ b,c = .bool b/\(b=true->yes)/\(b=false->no)
def zUU (P:Program)(o:Oper)(ρ:Operand->Value)(H:zAx)(k:zAm):Prop :=
  ∀ w:World,w.heap=H->∃ n w',(execOp ρ o).run P w = .ok n w'/\zJI w w' /\
    ((∃ v,n = .value v/\k v w'.heap)\/(n = .skip/\k undef w'.heap))
def ld1 (H:zAx):Value->Option Value
  | .pointer (some ⟨b,o,none⟩)=>match H[b]? with
    | some (.cells c _ _)=>c[o]?
    | _=>none
  | _=>none
def ldN (n:Nat)(H:zAx):Value->Option Value
  | .pointer (some ⟨b,o,none⟩)=>match H[b]? with
    | some (.cells c _ _)=>if o+n<=c.size then some (.agg (c.extract o (o+n))) else none
    | _=>none
  | _=>none
def spl (c:Array Value)(o:Nat)(vs:Array Value):Array Value:=(c.toList.take o++vs.toList++c.toList.drop (o+vs.size)).toArray
def zUV (f:Nat×Nat)(o n:Nat):Bool:=decide (f.2<=o) || decide (o+n<=f.1) || decide (f.2<=f.1)
def stA (H:zAx)(b o:Nat)(vs:Array Value):Option zAx :=
  match H[b]? with
  | some (.cells c T f)=>if o+vs.size<=c.size/\zUV f o vs.size=true/\vs.all (·.oneCell')=true then some (H.setIfInBounds b (.cells (spl c o vs) T f)) else none
  | _=>none
def st1 (H:zAx)(p v:Value):Option zAx :=
  match p with
  | .pointer (some ⟨b,o,none⟩)=>match H[b]? with
    | some (.cells c T f)=>if o<c.size/\zUV f o 1=true/\v.oneCell'=true then some (H.setIfInBounds b (.cells (c.setIfInBounds o v) T f)) else none
    | _=>none
  | _=>none
def stN (n:Nat)(H:zAx)(p v:Value):Option zAx :=
  match p,v with
  | .pointer (some ⟨b,o,none⟩),.agg vs=>if vs.size=n then stA H b o vs else none
  | _,_=>none
def nck:Value->Option Value
  | .pointer (some a)=>some (.pointer (some a))
  | .func (.func f) a b=>some (.func (.func f) a b)
  | _=>none
def fld (off:Nat):Value->Option Value
  | .pointer (some ⟨b,o,none⟩)=>some (.pointer (some ⟨b,o+off,none⟩))
  | _=>none
def zBD:Value->Value->Value->Option Value
  | .bool c,a,b=>some (if c then a else b)
  | _,_,_=>none
def zVV (agg:Bool)(n off:Nat):Value->Option Value
  | .agg cs=>if agg then some (.agg (cs.extract off (off+n))) else cs[off]?
  | _=>none
def ixS (size:Nat):Value->Value->Option Value
  | .slice (some ⟨b,o,none⟩) len _,.int _ i=>if 0<=i/\i<len then some (.pointer (some ⟨b,o+i.toNat*size,none⟩)) else none
  | _,_=>none
def ixA (len size:Nat):Value->Value->Option Value
  | .pointer (some ⟨b,o,none⟩),.int _ i=>if 0<=i/\i<len then some (.pointer (some ⟨b,o+i.toNat*size,none⟩)) else none
  | _,_=>none
def ixT:Value->Value->Option Value
  | .string s,.int _ i=>if 0<=i then (s[i.toNat]?).map λb => .int .u8 b.toNat else none
  | _,_=>none
def ixV (len:Nat)(agg:Bool)(size:Nat):Value->Value->Option Value
  | .agg cs,.int _ i=>if 0<=i/\i<len then (if agg then some (.agg (cs.extract (i.toNat*size) (i.toNat*size+size))) else cs[i.toNat*size]?) else none
  | _,_=>none
def zC8 (op:BinOp)(k:IntKind)(a b:Int):Option Value :=
  match op with
  | .add=>some (.int k (k.wrap (a+b)))
  | .sub=>some (.int k (k.wrap (a-b)))
  | .mul=>some (.int k (k.wrap (a*b)))
  | .quo=>if b=0 then none else some (.int k (k.wrap (a.tdiv b)))
  | .rem=>if b=0 then none else some (.int k (a.tmod b))
  | .and=>some (.int k (k.wrap (BitVec.ofInt k.bits a &&& BitVec.ofInt k.bits b).toNat))
  | .or=>some (.int k (k.wrap (BitVec.ofInt k.bits a ||| BitVec.ofInt k.bits b).toNat))
  | .xor=>some (.int k (k.wrap (BitVec.ofInt k.bits a ^^^ BitVec.ofInt k.bits b).toNat))
  | .andNot=>some (.int k (k.wrap (BitVec.ofInt k.bits a &&& ~~~BitVec.ofInt k.bits b).toNat))
  | .eql=>some (.bool (a == b))
  | .neq=>some (.bool (a != b))
  | .lss=>some (.bool (decide (a<b)))
  | .leq=>some (.bool (decide (a<=b)))
  | .gtr=>some (.bool (decide (a > b)))
  | .geq=>some (.bool (decide (a>=b)))
  | .shl=>if b<0 then none else some (.int k (k.wrap (a*2 ^ (min b.toNat k.bits))))
  | .shr=>if b<0 then none else some (.int k (a.fdiv (2 ^ (min b.toNat k.bits))))
def zTt (op:BinOp)(x y:ByteArray):Option Value :=
  match op with
  | .add=>if ((x.size+y.size:Nat):Int) > IntKind.i64.max then none else some (.string (x++y))
  | .eql=>some (.bool (x.toList == y.toList))
  | .neq=>some (.bool !(x.toList == y.toList))
  | .lss=>some (.bool (Op.bytesLess x.toList y.toList))
  | .leq=>some (.bool (Op.bytesLess x.toList y.toList || x.toList == y.toList))
  | .gtr=>some (.bool !(Op.bytesLess x.toList y.toList || x.toList == y.toList))
  | .geq=>some (.bool !(Op.bytesLess x.toList y.toList))
  | _=>none
def zN1:Nat->Value->Value->Option Bool
  | 0,.int k a,.int k' b=>if k=k' then some (a == b) else none
  | 1,.bool a,.bool b=>some (a == b)
  | 2,.string a,.string b=>some (a.toList == b.toList)
  | _,_,_=>none
def zCw:List Nat->List Value->List Value->Option Bool
  | [],[],[]=>some true
  | k::ks,a::as,b::bs=>match zN1 k a b,zCw ks as bs with
    | some x,some y=>some (x&&y)
    | _,_=>none
  | _,_,_=>none
inductive EqK where
  | no|bool|ptr|slc|fn|flat (ks:List Nat)
  | ifc (f:TypeId->Bool) (lit:Bool)
def eqV:EqK->Value->Value->Option Bool
  | .bool,.bool a,.bool b=>some (a == b)
  | .ptr,.pointer none,.pointer b=>some b.isNone
  | .ptr,.pointer (some _),.pointer none=>some false
  | .ptr,.pointer (some a),.pointer (some b)=>if a=b then some true else none
  | .slc,.slice none _ _,.slice b _ _=>some b.isNone
  | .slc,.slice (some _) _ _,.slice none _ _=>some false
  | .fn,.nilFunc,.nilFunc=>some true
  | .fn,.nilFunc,.func _ _ _=>some false
  | .fn,.func _ _ _,.nilFunc=>some false
  | .flat ks,.agg xs,.agg ys=>zCw ks xs.toList ys.toList
  | .ifc _ lit,.nilIface,.nilIface=>bif lit then some true else none
  | .ifc _ _,.nilIface,.iface _ _=>some false
  | .ifc _ _,.iface _ _,.nilIface=>some false
  | .ifc f _,.iface tx (.int k a),.iface ty (.int k' b)=>bif Nat.beq tx ty then (bif f tx then (if k=k' then some (a == b) else none) else none) else some false
  | .ifc _ _,.iface tx _,.iface ty _=>bif Nat.beq tx ty then none else some false
  | _,_,_=>none
def zAB (q:EqK)(op:BinOp)(x y:Value):Option Value :=
  match x,y with
  | .int k a,.int k' b=>if k=k' then zC8 op k a b else (match op with | .shl=>zC8 .shl k a b | .shr=>zC8 .shr k a b|_=>none)
  | .string a,.string b=>zTt op a b
  | x,y=>match op with
    | .eql=>(eqV q x y).map .bool
    | .neq=>(eqV q x y).map λb => .bool (!b)
    | _=>none
def unV (op:UnOp):Value->Option Value
  | .int k n=>match op with
    | .neg=>some (.int k (k.wrap (0-n)))
    | .xor=>some (.int k (k.wrap (BitVec.ofInt k.bits (if k.signed then -1 else k.max) ^^^ BitVec.ofInt k.bits n).toNat))
    | _=>none
  | .bool b=>match op with
    | .not=>some (.bool (!b))
    | _=>none
  | _=>none
def cvI (k:IntKind):Value->Option Value
  | .int _ n=>some (.int k (k.wrap n))
  | _=>none
def zNb:Value->Option Value
  | .string s=>some (.int .i64 s.size)
  | _=>none
def lenV:Value->Option Value
  | .slice _ n _=>some (.int .i64 n)
  | _=>none
def zAgs:Value->Option Value
  | .slice _ _ n=>some (.int .i64 n)
  | _=>none
def bnd (d:Nat)(top:Nat):Option Value->Option Nat
  | none=>some d
  | some (.int _ i)=>if 0<=i/\i<=top then some i.toNat else none
  | some _=>none
def zNp (len cap:Nat)(low high max:Option Value):Option (Nat×Nat×Nat) :=
  (bnd cap cap max).bind λm=>(bnd len m high).bind λh=>(bnd 0 h low).map λl=>(l,h,m)
def slS (size:Nat)(x:Value)(low high max:Option Value):Option Value :=
  match x with
  | .slice a len cap=>(if max.isSome&&high.isNone then none else zNp len cap low high max).bind λ(l,h,m) =>
      match a with
      | none=>some (.slice none (h-l) (m-l))
      | some ⟨b,o,none⟩=>some (.slice (some ⟨b,if m=l then o else o+l*size,none⟩) (h-l) (m-l))
      | some a=>if l=0 then some (.slice (some a) h m) else none
  | _=>none
def slA (n size:Nat)(x:Value)(low high max:Option Value):Option Value :=
  match x with
  | .pointer (some ⟨b,o,none⟩)=>(if max.isSome&&high.isNone then none else zNp n n low high max).map λ(l,h,m) =>
      .slice (some ⟨b,if m=l then o else o+l*size,none⟩) (h-l) (m-l)
  | _=>none
def slT (x:Value)(low high:Option Value):Option Value :=
  match x with
  | .string s=>(zNp s.size s.size low high none).map λ(l,h,_) => .string (s.extract l h)
  | _=>none
def zE0 (i:Nat):Value->Option Value
  | .tuple vs=>vs[i]?
  | _=>none
def zED (size:Nat)(H:zAx):Value->Option (Nat×Array Value)
  | .slice a n _=>if n=0 then some (0,#[]) else match a with
    | some ⟨b,o,none⟩=>match H[b]? with
      | some (.cells c _ _)=>if o+n*size<=c.size then some (n,c.extract o (o+n*size)) else none
      | _=>none
    | _=>none
  | .string s=>if size=1 then some (s.size,s.data.map λb => .int .u8 b.toNat) else none
  | _=>none
def zIw (T:TypeId)(size bytes:Nat)(H:zAx)(s x:Value)(k:zAm):Prop :=
  ∃ base len cap n new,s = .slice base len cap/\zED size H x=some (n,new)/\new.all (·.oneCell')=true /\
    (len+n<=cap->match base with
      | none=>k (.slice none (len+n) cap) H
      | some ⟨b,o,none⟩=>Mwr (stA H b (o+len*size) new) λh=>k (.slice base (len+n) cap) h
      | some _=>False) /\
    (cap<len+n->(len+n)*bytes<=140737488355328/\0<bytes/\∃ old,zED size H (.slice base len cap)=some (len,old) /\
      ∀ cap' rest,len+n<=cap'->cap'<9223372036854775808->rest.size=(cap' - (len+n))*size ->
        k (.slice (some ⟨H.size,0,none⟩) (len+n) cap') (H.push (.cells (old++new++rest) T (0,0))))
def zSo (z:Array Value)(n:Nat):Array Value:=(Array.range n).map λi=>z[i % z.size]!
def zAer (T:TypeId)(size bytes:Nat)(H:zAx)(s x:Value)(z:Option (Array Value))(k:zAm):Prop :=
  ∃ base len cap kx n zc,s = .slice base len cap/\x = .int kx (n:Nat)/\n*bytes<=140737488355328/\n<9223372036854775808/\z=some zc/\(zSo zc (n*size)).all (·.oneCell')=true /\
    (len+n<=cap->match base with
      | none=>k (.slice none (len+n) cap) H
      | some ⟨b,o,none⟩=>Mwr (stA H b (o+len*size) (zSo zc (n*size))) λh=>k (.slice base (len+n) cap) h
      | some _=>False) /\
    (cap<len+n->(len+n)*bytes<=140737488355328/\0<bytes/\∃ old,zED size H (.slice base len cap)=some (len,old) /\
      ∀ cap' rest,len+n<=cap'->cap'<9223372036854775808->rest.size=(cap' - (len+n))*size ->
        k (.slice (some ⟨H.size,0,none⟩) (len+n) cap') (H.push (.cells (old++zSo zc (n*size)++rest) T (0,0))))
def zQ0 (size:Nat)(H:zAx)(d s:Value)(k:zAm):Prop :=
  ∃ n new base len cap,zED size H s=some (n,new)/\d = .slice base len cap /\
    match base with
      | none=>k (.int .i64 (Nat.min n len)) H
      | some ⟨b,o,none⟩=>Mwr (stA H b o (new.extract 0 (Nat.min n len*size))) λh=>k (.int .i64 (Nat.min n len)) h
      | some _=>False
def bytesOf:List Value->Option (List UInt8)
  | []=>some []
  | .int .u8 n::r=>(bytesOf r).map (UInt8.ofNat n.toNat :: ·)
  | _=>none
def b2s (H:zAx)(v:Value):Option Value :=
  match v with
  | .slice _ _ _=>(zED 1 H v).bind λ(_,c)=>(bytesOf c.toList).map λl => .string ⟨l.toArray⟩
  | _=>none
def zAaW (T:TypeId)(H:zAx)(s:Value)(k:zAm):Prop :=
  ∃ str,s = .string str/\str.size<9223372036854775808/\∀ cap,str.size<=cap->cap<9223372036854775808 ->
    k (.slice (some ⟨H.size,0,none⟩) str.size cap) (H.push (.cells ((str.data.map λb=>Value.int .u8 b.toNat)++Array.replicate (cap-str.size) (.int .u8 0)) T (cap,cap+1)))
def zQ1 (place:Nat->Option (Nat×Nat)):Array Value->List (Nat×Value)->Option (Array Value)
  | cells,[]=>some cells
  | cells,(i,v)::r=>match place i with
    | some (off,size)=>if v.cells.size=size/\off+size<=cells.size then zQ1 place (spl cells off v.cells) r else none
    | none=>none
def zAez (op:Bool):List Value->Option Value
  | [.int k a,.int _ b]=>some (.int k (if op then (if b<a then b else a) else (if a<b then b else a)))
  | _=>none
def zNc (P:Program)(T:TypeId):Bool:=match P.underlying T with
  | some (.struct _)=>true
  | some (.array _ _)=>true
  | _=>false
def zAbQ (P:Program)(T:TypeId):Bool:=(P.underlying T).isSome&&Nat.beq (P.cellsOf T) 1 && !zNc P T
def zYr (P:Program)(T:TypeId):Bool:=(P.info? T).isSome
def zAhw (P:Program)(T:TypeId):Bool:=(P.underlying T).isSome
def zBI (P:Program)(T:TypeId):Option (Array Value):=(P.info? T).bind λi=>i.zero.map Value.cells
def zSs (P:Program)(good:TypeId->Option (List Nat)):Nat->List Field->Option (List Nat)
  | _,[]=>some []
  | o,f::fs=>if f.offset == o&&f.name != "_" then (match good f.type with
      | some ks=>if ks.length == P.cellsOf f.type then (zSs P good (o+P.cellsOf f.type) fs).map (ks ++ ·) else none
      | none=>none) else none
def zPu (P:Program):Nat->TypeId->Option (List Nat)
  | 0,_=>none
  | d+1,T=>match P.underlying T with
    | some (.int _)=>some [0]
    | some .bool=>some [1]
    | some .string=>some [2]
    | some (.struct fs)=>if P.stoodInHeld T then none else zSs P (zPu P d) 0 fs.toList
    | some (.array n e)=>match zPu P d e with
      | some ks=>if ks.length == P.cellsOf e then some (List.replicate n ks).flatten else none
      | none=>none
    | _=>none
def eqK (P:Program)(T:TypeId):EqK:=match P.underlying T with
  | some .bool => .bool
  | some (.pointer e)=>if (P.info? e).isSome then .ptr else .no
  | some (.slice _) => .slc
  | some (.func _ _ _) => .fn
  | some (.struct _)=>if P.eqGuardType P.depth T then .no else (match zPu P 9 T with|some ks => .flat ks|none => .no)
  | some (.array _ _)=>if P.eqGuardType P.depth T then .no else (match zPu P 9 T with|some ks => .flat ks|none => .no)
  | _ => .no
def zVW (P:Program)(T:TypeId):Bool:=match P.underlying T with
  | some (.int _)=>(match P.info? T with|some i=>i.comparable|none=>false)
  | _=>false
def isC:Operand->Bool
  | .const _=>true
  | _=>false
def eqQ (P:Program)(T:TypeId)(x y:Operand):EqK:=match P.underlying T with
  | some (.interface _) => .ifc (zVW P) (isC x || isC y)
  | _=>eqK P T
def zAbR (P:Program)(T:TypeId):Bool:=match zBI P T with
  | some z=>Nat.beq z.size (P.cellsOf T)
  | none=>false
def zCM (P:Program)(T:TypeId)(parts:List (Nat×Value)):Option Value :=
  match P.underlying T with
  | some (.struct fs)=>match fs.toList.mapM (λf=>(P.info? f.type).map λi=>(f.offset,i.size)) with
    | some places=>(zBI P T).bind λz=>(zQ1 (places.toArray[·]?) z parts).map .agg
    | none=>none
  | some (.array _ e)=>match P.info? e with
    | some i=>(zBI P T).bind λz=>(zQ1 (λj=>some (j*i.size,i.size)) z parts).map .agg
    | none=>none
  | _=>none
def zF6 (P:Program)(e:TypeId)(len:Nat)(parts:List (Nat×Value)):Option (Array Value) :=
  if P.cellsOf e=0\/len*P.cellsOf e > 16777216 then none else
  (zBI P e).bind λz=>if z.size=P.cellsOf e then zQ1 (λi=>some (i*P.cellsOf e,P.cellsOf e)) (zSo z (len*P.cellsOf e)) parts else none
def zD2 (H:zAx)(T:TypeId)(len:Nat)(c:Option (Array Value))(k:zAm):Prop :=
  ∃ cs,c=some cs/\k (.slice (some ⟨H.size,0,none⟩) len len) (H.push (.cells cs T (0,0)))
def zAmE (P:Program)(H:zAx)(e:TypeId)(l c:Value)(k:zAm):Prop :=
  ∃ kl kc n m z,l = .int kl (n:Nat)/\c = .int kc (m:Nat)/\n<=m/\m*P.bytesOf e<=281474976710656/\m<=9223372036854775807/\zBI P e=some z/\(P.info? e).isSome=true /\
    k (.slice (some ⟨H.size,0,none⟩) n m) (H.push (.cells (zSo z (m*P.cellsOf e)) e (0,0)))
def mkI (P:Program)(T:TypeId)(v:Value):Option Value:=match P.underlying T with
  | some (.interface _)=>none
  | some _=>some (.iface T v)
  | none=>none
inductive XR where
  | val (v:Value)
  | pu (r:Option Value)
  | rd (r:Option Value)
  | wr (r:Option zAx)
  | nw (T:TypeId) (c:Option (Array Value))
  | nws (T:TypeId) (len:Nat) (c:Option (Array Value))
  | ap (T:TypeId) (size bytes:Nat) (s x:Value)
  | az (T:TypeId) (size bytes:Nat) (s x:Value) (z:Option (Array Value))
  | cp (size:Nat) (d s:Value)
  | sb (T:TypeId) (s:Value)
  | cl (f:FuncId) (args:List Value)
  | cv (fv:Value) (args:List Value)
  | mk (T:TypeId) (l c:Value)
  | sm (s:Sem Value)
  | su (s:Sem Unit)
  | raw
  | no
def idS:Value->Option Value
  | .string s=>some (.string s)
  | _=>none
def opR (P:Program)(o:Op)(ρ:Operand->Value)(H:zAx):XR :=
  match o with
  | .move x => .val (ρ x)
  | .assign x => .val (ρ x)
  | .pick c a b => .pu (zBD (ρ c) (ρ a) (ρ b))
  | .alloc T => .nw T (zBI P T)
  | .box T x => .nw T (some (ρ x).cells)
  | .build T parts => .pu (zCM P T (parts.toList.map λp=>(p.1,ρ p.2)))
  | .buildSlice T len parts=>match P.underlying T with
    | some (.slice e) => .nws e len (zF6 P e len (parts.toList.map λp=>(p.1,ρ p.2)))
    | _ => .no
  | .load T a=>bif zNc P T then .rd (ldN (P.cellsOf T) H (ρ a)) else bif zAbQ P T then .rd (ld1 H (ρ a)) else .no
  | .store T a x=>bif zNc P T then .wr (stN (P.cellsOf T) H (ρ a) (ρ x)) else bif zAbQ P T then .wr (st1 H (ρ a) (ρ x)) else .no
  | .nilCheck x => .pu (nck (ρ x))
  | .binOp op T x y _ => .pu (zAB (eqQ P T x y) op (ρ x) (ρ y))
  | .unOp op _ x => .pu (unV op (ρ x))
  | .convert s d x=>match P.underlying s,P.underlying d with
    | some (.int _),some (.int kd) => .pu (cvI kd (ρ x))
    | some (.slice e),some .string=>match P.underlying e with
      | some (.int .u8) => .rd (b2s H (ρ x))
      | _ => .no
    | some .string,some (.slice e)=>match P.underlying e with
      | some (.int .u8) => .sb e (ρ x)
      | _ => .no
    | some .string,some .string => .pu (idS (ρ x))
    | some (.pointer _),some .unsafePointer => .sm (convert s d (ρ x))
    | some .unsafePointer,some (.pointer _) => .sm (convert s d (ρ x))
    | _,_ => .raw
  | .makeFunc fn a b => .val (.func fn (a.map ρ) (b.map ρ))
  | .makeInterface T x => .pu (mkI P T (ρ x))
  | .makeSlice T l c=>match P.underlying T with
    | some (.slice e) => .mk e (ρ l) (ρ c)
    | _ => .no
  | .panic _ => .no
  | .slice T x lo hi mx=>match P.underlying T with
    | some (.slice e)=>bif zYr P e then .pu (slS (P.cellsOf e) (ρ x) (lo.map ρ) (hi.map ρ) (mx.map ρ)) else .no
    | some (.array n e)=>bif zYr P e then .pu (slA n (P.cellsOf e) (ρ x) (lo.map ρ) (hi.map ρ) (mx.map ρ)) else .no
    | some .string=>bif mx.isNone then .pu (slT (ρ x) (lo.map ρ) (hi.map ρ)) else .no
    | _ => .raw
  | .fieldAddr S x f=>match P.underlying S with
    | some (.struct fs)=>match fs[f]? with
      | some fd=>bif Nat.beq (P.cellsOf fd.type) 0 then .raw else .pu (fld fd.offset (ρ x))
      | none => .no
    | _ => .no
  | .field S x f=>match P.underlying S with
    | some (.struct fs)=>match fs[f]? with
      | some fd=>bif zAhw P fd.type then .pu (zVV (zNc P fd.type) (P.cellsOf fd.type) fd.offset (ρ x)) else .no
      | none => .no
    | _ => .no
  | .indexAddr T x i=>match P.underlying T with
    | some (.slice e)=>bif zYr P e then .pu (ixS (P.cellsOf e) (ρ x) (ρ i)) else .no
    | some (.array n e)=>bif zYr P e then .pu (ixA n (P.cellsOf e) (ρ x) (ρ i)) else .no
    | _ => .no
  | .index T x i=>match P.underlying T with
    | some .string => .pu (ixT (ρ x) (ρ i))
    | some (.array n e)=>bif zAhw P e then .pu (ixV n (zNc P e) (P.cellsOf e) (ρ x) (ρ i)) else .no
    | _ => .no
  | .extract x i => .pu (zE0 i (ρ x))
  | .makeMap t r => .sm (Instr.makeMap t (r.map ρ))
  | .lookup t x i ok => .sm (Instr.lookup t (ρ x) (ρ i) ok)
  | .mapUpdate t m k x => .su (Instr.mapUpdate t (ρ m) (ρ k) (ρ x))
  | .range T x => .sm (Instr.range T (ρ x))
  | .next it s => .sm (Instr.next (ρ it) s 0)
  | .entry it => .sm (Instr.entry (ρ it))
  | .insert t m k x => .su (Instr.mapUpdate t (ρ m) (ρ k) (ρ x))
  | .call c=>match c.callee with
    | .value x=>match x with
      | .func f=>bif zPt P f then .cl f (c.args.toList.map ρ) else bif (zAb2 P f).isSome then .sm (xtV P f (c.args.toList.map ρ).toArray) else .raw
      | .tmp t => .cv (ρ (.tmp t)) (c.args.toList.map ρ)
      | .const v => .cv (ρ (.const v)) (c.args.toList.map ρ)
      | .global _ => .raw
    | .builtin .len=>match c.argTypes.toList,c.args.toList with
      | [T],[x]=>match P.underlying T with
        | some .string => .pu (zNb (ρ x))
        | some (.slice _) => .pu (lenV (ρ x))
        | some (.array n _) => .val (.int .i64 n)
        | some (.map _ _) => .sm (Builtin.len_ #[T] 0 #[ρ x])
        | _ => .raw
      | _,_ => .raw
    | .builtin .cap=>match c.argTypes.toList,c.args.toList with
      | [T],[x]=>match P.underlying T with
        | some (.slice _) => .pu (zAgs (ρ x))
        | _ => .raw
      | _,_ => .raw
    | .builtin .append=>match c.argTypes.toList,c.args.toList with
      | [T,U],[s,x]=>match P.underlying T,P.underlying U with
        | some (.slice e),some (.slice _)=>bif zAbR P e then .ap e (P.cellsOf e) (P.bytesOf e) (ρ s) (ρ x) else .no
        | some (.slice e),some .string=>bif zAbR P e then .ap e (P.cellsOf e) (P.bytesOf e) (ρ s) (ρ x) else .no
        | some (.slice e),some (.int _)=>bif zAbR P e then .az e (P.cellsOf e) (P.bytesOf e) (ρ s) (ρ x) (zBI P e) else .no
        | _,_ => .raw
      | _,_ => .raw
    | .builtin .copy=>match c.argTypes.toList,c.args.toList with
      | [T,_],[d,s]=>match P.underlying T with
        | some (.slice e)=>bif zYr P e then .cp (P.cellsOf e) (ρ d) (ρ s) else .no
        | _ => .raw
      | _,_ => .raw
    | .builtin .unsafeSliceData=>match c.args.toList with
      | [x] => .pu (usd (ρ x))
      | _ => .raw
    | .builtin .unsafeString => .sm (Builtin.unsafeString_ c.argTypes 0 (c.args.toList.map ρ).toArray)
    | .builtin .clear => .sm (Builtin.clear_ c.argTypes 0 (c.args.toList.map ρ).toArray)
    | .builtin .delete => .sm (Builtin.delete_ c.argTypes 0 (c.args.toList.map ρ).toArray)
    | .builtin .min => .pu (zAez true (c.args.toList.map ρ))
    | .builtin .max => .pu (zAez false (c.args.toList.map ρ))
    | _ => .raw
  | _ => .raw
def opX (P:Program)(q:Bool)(o:Oper)(ρ:Operand->Value)(H:zAx)(k:zAm):Prop :=
  match opR P o.op ρ H with
  | .val v=>k v H
  | .pu r=>Mpu r λv=>k v H
  | .rd r=>Mpu r λv=>k v H
  | .wr r=>Mwr r λh=>k undef h
  | .nw T c=>zDC H T c k
  | .nws T len c=>zD2 H T len c k
  | .ap T size bytes s x=>zIw T size bytes H s x k
  | .az T size bytes s x z=>zAer T size bytes H s x z k
  | .cp size d s=>zQ0 size H d s k
  | .sb T s=>zAaW T H s k
  | .cl f args=>bif q then zAjC P f args H k else zAX P f args H k
  | .cv fv args=>bif q then zDQ P fv args H λv h=>Ext H h/\k v h else zDQ P fv args H k
  | .mk e l c=>zAmE P H e l c k
  | .sm s=>zQx P s H k
  | .su s=>Msu P s H k
  | .raw=>zUU P o ρ H k
  | .no=>False
theorem zIx (b o n:Nat):(⟨b,o,none⟩:Addr).add n=⟨b,o+n,none⟩:=by
  unfold Addr.add;split<;>simp_all
theorem zYv {w:World}{b:Nat}{c:Array Value}{T:TypeId}{f:Nat×Nat}(h:w.heap[b]? = some (.cells c T f))(o:Nat):w.cell? ⟨b,o,none⟩=c[o]?:=by
  simp[World.cell?,h]
theorem zJJ {P:Program}{T:TypeId}{i:TypeInfo}(h:P.info? T=some i)(w:World):(typeInfo T).run P w = .ok i w:=by
  simp[typeInfo,h]
theorem zCI {P:Program}{T:TypeId}{d:TypeDesc}(h:P.underlying T=some d)(w:World):(underlying T).run P w = .ok d w:=by
  simp[underlying,h]
theorem zRu {P:Program}{T:TypeId}{d:TypeDesc}(h:P.underlying T=some d):∃ i,P.info? T=some i:=by
  unfold Program.underlying at h
  cases hi:P.info? T with
  | none=>simp[hi]at h
  | some i=>exact⟨i,rfl⟩
theorem zU9 {P:Program}{T:TypeId}(h:P.cellsOf T≠0):∃ i,P.info? T=some i/\i.size=P.cellsOf T:=by
  unfold Program.cellsOf at *
  cases hi:P.info? T with
  | none=>simp[hi]at h
  | some i=>exact⟨i,rfl,by simp⟩
theorem zEn {P:Program}{T:TypeId}{i:TypeInfo}(h:P.info? T=some i)(w:World):(sizeOf T).run P w = .ok (P.cellsOf T) w:=by
  simp[sizeOf,zJJ h,Program.cellsOf,h]
theorem zRv {P:Program}{T:TypeId}{d:TypeDesc}(h:P.underlying T=some d)(w:World):(isAgg T).run P w = .ok (zNc P T) w:=by
  unfold isAgg zNc
  rw[Sem.run_bind,zCI h w,h]
  cases d<;>simp
theorem zZC {P:Program}{T:TypeId}(h:zNc P T=true):∃ d,P.underlying T=some d:=by
  unfold zNc at h
  cases hu:P.underlying T with
  | none=>simp[hu]at h
  | some d=>exact⟨d,rfl⟩
theorem zW3 {P:Program}{w:World}{a:Addr}:(loadCells a 0).run P w = .ok #[] w:=run_loadCells_list (P:=P) w a [] (λj v hv=>by cases hv)
theorem zTR {P:Program}{w:World}{b o n:Nat}{c:Array Value}{T:TypeId}{f:Nat×Nat}(h:w.heap[b]? = some (.cells c T f))(hn:o+n<=c.size) :
    (loadCells ⟨b,o,none⟩ n).run P w = .ok (c.extract o (o+n)) w:=by
  have hl:=run_loadCells_list (P:=P) w ⟨b,o,none⟩ (c.extract o (o+n)).toList (λj v hv=>by
    rw[zIx,zYv h]
    have hj:j<n:=by
      have:=(zAV.1 hv).1
      simp at this;omega
    rw[Array.getElem?_toList,Array.getElem?_extract]at hv
    rw[if_pos (by omega)]at hv
    exact hv)
  have e:(c.extract o (o+n)).toList.length=n:=by simp;omega
  rw[e]at hl
  rw[hl]
theorem zZD {P:Program}{b o:Nat}{T:TypeId}{f:Nat×Nat}:∀ (vs:List Value) (i:Nat) (c:Array Value) (w:World),w.heap[b]? = some (.cells c T f)->o+i+vs.length<=c.size ->
    zUV f (o+i) vs.length=true->(∀ v∈vs,v.oneCell'=true) ->
    (storeCells ⟨b,o,none⟩ vs i).run P w = .ok () { w with heap:=w.heap.setIfInBounds b (.cells (c.toList.take (o+i)++vs++c.toList.drop (o+i+vs.length)).toArray T f) }
  | [],i,c,w,hg,_,_,_=>by
    have hb:=(zBk.1 hg)
    obtain⟨hb1,hb2⟩:=hb
    simp only[storeCells,zAP,List.length_nil,zAu,zBl,Array.toArray_toList]
    have:w.heap.setIfInBounds b (.cells c T f)=w.heap:=by
      apply Array.ext_getElem?
      intro k
      rw[zAE]
      split
      · rename_i e;subst e;simp[hb1,hb2]
      · rfl
    rw[this]
    rfl
  | v::rest,i,c,w,hg,hl,hz,h1=>by
    have hi:o+i<c.size:=by simp at hl;omega
    have hb1:=(zBk.1 hg).1
    have hfro:w.frozen? ⟨b,o+i,none⟩=false:=by
      simp only[World.frozen?,hg]
      simp only[zUV,zAS,zB9,decide_eq_true_eq]at hz
      simp only[Bool.and_eq_false_iff,decide_eq_false_iff_not]
      omega
    have hset:w.setCell ⟨b,o+i,none⟩ v = { w with heap:=w.heap.setIfInBounds b (.cells (c.setIfInBounds (o+i) v) T f) }:=by
      unfold World.setCell
      congr 1
      apply Array.ext_getElem?
      intro k
      rw[Array.getElem?_modify,zAE]
      split
      · rename_i e;subst e;rw[hg];simp[hb1]
      · rfl
    have hst:(store ((⟨b,o,none⟩:Addr).add i) v).run P w = .ok () { w with heap:=w.heap.setIfInBounds b (.cells (c.setIfInBounds (o+i) v) T f) }:=by
      rw[zIx,run_store P w _ v _ (h1 v (by simp)),zYv hg]
      simp[hfro,hset,hi]
    have ih:=zZD (P:=P) (b:=b) (o:=o) (T:=T) (f:=f) rest (i+1) (c.setIfInBounds (o+i) v) { w with heap:=w.heap.setIfInBounds b (.cells (c.setIfInBounds (o+i) v) T f) }
      (by simp[hb1]) (by simp at hl ⊢;omega) (by
        simp only[zUV,zAS,zB9,decide_eq_true_eq]at hz ⊢
        omega) (λx hx=>h1 x (by simp[hx]))
    have e:=list_seg_step c.toList (o+i) v rest (by simp at hl ⊢;omega)
    have e':List.take (o+(i+1)) (c.setIfInBounds (o+i) v).toList++rest++List.drop (o+(i+1)+rest.length) (c.setIfInBounds (o+i) v).toList =
        List.take (o+i) c.toList++v::rest++List.drop (o+i+(v::rest).length) c.toList:=by
      simpa [zCa,Nat.add_assoc] using e
    simp only[storeCells,Sem.run_bind,hst,Result.andThen_ok,ih,e',Array.setIfInBounds_setIfInBounds]
theorem zPv {P:Program}{o:Oper}{ρ:Operand->Value}{H:zAx}{k:zAm}{v:Value}
    (h:∀ w,w.heap=H->(execOp ρ o).run P w = .ok (.value v) w) (hk:k v H):zUU P o ρ H k :=
  λw hw=>⟨.value v,w,h w hw,zJI.rfl' w,.inl ⟨v,rfl,hw ▸ hk⟩⟩
theorem zUW {P:Program}{o:Oper}{ρ:Operand->Value}{H H':zAx}{k:zAm}{v:Value}
    (h:∀ w,w.heap=H->(execOp ρ o).run P w = .ok (.value v) { w with heap:=H' }) (hk:k v H') (hs:zF5 H H'):zUU P o ρ H k :=
  λw hw=>⟨.value v,_,h w hw,⟨rfl,rfl,rfl,by rw[hw];exact hs⟩,.inl ⟨v,rfl,hk⟩⟩
theorem zVX {P:Program}{o:Oper}{ρ:Operand->Value}{H H':zAx}{k:zAm}
    (h:∀ w,w.heap=H->(execOp ρ o).run P w = .ok .skip { w with heap:=H' }) (hk:k undef H') (hs:zF5 H H'):zUU P o ρ H k :=
  λw hw=>⟨.skip,_,h w hw,⟨rfl,rfl,rfl,by rw[hw];exact hs⟩,.inr ⟨rfl,hk⟩⟩
theorem zRw {H H':zAx}{b o:Nat}{vs:Array Value}(h:stA H b o vs=some H'):zF5 H H':=by
  unfold stA at h
  split at h
  · rename_i hb;split at h
    · cases h;exact zF5.set hb
    · cases h
  · cases h
theorem zAb3 {H H':zAx}{p v:Value}(h:st1 H p v=some H'):zF5 H H':=by
  unfold st1 at h
  split at h
  · split at h
    · rename_i hb;split at h
      · cases h;exact zF5.set hb
      · cases h
    · cases h
  · cases h
theorem zAb4 {n:Nat}{H H':zAx}{p v:Value}(h:stN n H p v=some H'):zF5 H H':=by
  unfold stN at h
  split at h
  · split at h
    · exact zRw h
    · cases h
  · cases h
theorem zTS {P:Program}{T:TypeId}(h:zAbQ P T=true):(∃ d,P.underlying T=some d)/\zNc P T=false/\P.cellsOf T=1:=by
  unfold zAbQ at h
  simp only[zAk,zCb,zBt]at h
  exact⟨h.1.1,h.2,zA3 h.1.2⟩
theorem zW4 {P:Program}{T:TypeId}{p v:Value}{H:zAx}(hT:∃ d,P.underlying T=some d)(ha:zNc P T=false)(h:ld1 H p=some v)(w:World)(hw:w.heap=H) :
    (Instr.loadAt T p).run P w = .ok v w:=by
  subst hw
  unfold ld1 at h
  split at h
  · rename_i b o
    split at h
    · rename_i c t f hg
      obtain⟨d,hd⟩:=hT
      simp[Instr.loadAt,Instr.sureAddr,loadVar,zRv hd,ha,zYv hg,h]
    · cases h
  · cases h
theorem zW5 {P:Program}{T:TypeId}{p v:Value}{H:zAx}(ha:zNc P T=true)(h:ldN (P.cellsOf T) H p=some v)(w:World)(hw:w.heap=H) :
    (Instr.loadAt T p).run P w = .ok v w:=by
  subst hw
  unfold ldN at h
  split at h
  · rename_i b o
    split at h
    · rename_i c t f hg
      split at h
      · rename_i hle
        obtain⟨d,hd⟩:=zZC ha
        obtain⟨i,hi⟩:=zRu hd
        cases h
        simp[Instr.loadAt,Instr.sureAddr,loadVar,zRv hd,ha,zEn hi,zTR hg hle]
      · cases h
    · cases h
  · cases h
theorem zAaX {P:Program}{T:TypeId}{p v:Value}{H H':zAx}(hs:P.cellsOf T=1)(h:st1 H p v=some H')(w:World)(hw:w.heap=H) :
    (Instr.storeAt T p v).run P w = .ok () { w with heap:=H' }:=by
  subst hw
  obtain⟨i,hi,his⟩:=zU9 (P:=P) (T:=T) (by omega)
  unfold st1 at h
  split at h
  · rename_i b o
    split at h
    · rename_i c t f hg
      split at h
      · rename_i hc
        cases h
        have hone:v.cells=#[v]:=by
          have:=hc.2.2
          cases v<;>simp_all [Value.cells,Value.oneCell']
        have hst:=zZD (P:=P) (b:=b) (o:=o) (T:=t) (f:=f) [v] 0 c w hg (by simp;omega) (by simpa using hc.2.1) (by simpa using hc.2.2)
        simp only[Instr.storeAt,Instr.sureAddr,storeVar,hone,Sem.run_bind,Sem.run_pure,Result.andThen_ok,zEn hi,hs]
        simp only[zB7,zAS,List.length_nil,ne_eq,not_true_eq_false,if_false,zAi]
        simp only[Sem.run_pure,Result.andThen_ok,hst]
        congr 2
        apply Array.ext_getElem?
        intro k
        rw[zAE,zAE]
        split
        · congr 3
          apply Array.ext'
          have ho:=hc.1
          apply zCT
          intro j
          simp only[zAu,zAS,List.length_nil,zAi,zCa,List.getElem?_set,zBg,List.getElem?_append,zA4,Array.length_toList,zCr]
          by_cases h1:j<o
          · simp[h1,show o≠j by omega,show min o c.size=o by omega]
          · by_cases h2:j=o
            · subst h2;simp[show min j c.size=j by omega,ho]
            · simp[show min o c.size=o by omega,h1,show o≠j by omega,show j-o≠0 by omega,show ¬ (j-o=0) by omega]
              simp[show o+1+(j-o-1)=j by omega]
        · rfl
      · cases h
    · cases h
  · cases h
theorem zAaY {P:Program}{T:TypeId}{p v:Value}{H H':zAx}(hT:zNc P T=true)(h:stN (P.cellsOf T) H p v=some H')(w:World)(hw:w.heap=H) :
    (Instr.storeAt T p v).run P w = .ok () { w with heap:=H' }:=by
  subst hw
  obtain⟨d,hd⟩:=zZC hT
  obtain⟨i,hi⟩:=zRu hd
  unfold stN at h
  split at h
  · rename_i b o vs
    split at h
    · rename_i hsz
      unfold stA at h
      split at h
      · rename_i c t f hg
        split at h
        · rename_i hc
          cases h
          have hst:=zZD (P:=P) (b:=b) (o:=o) (T:=t) (f:=f) vs.toList 0 c w hg (by simp;omega) (by simpa using hc.2.1) (by
            intro v hv
            exact(zBA.1 hc.2.2) v (by simpa using hv))
          simp only[Instr.storeAt,Instr.sureAddr,storeVar,Value.cells,Sem.run_bind,Sem.run_pure,Result.andThen_ok,zEn hi]
          simp only[ne_eq,hsz,not_true_eq_false,if_false,Sem.run_pure,Result.andThen_ok]
          rw[hst]
          simp[spl,hsz]
        · cases h
      · cases h
    · cases h
  · cases h
section
variable {P:Program} {w:World}
theorem zAeA {c a b v:Value}(h:zBD c a b=some v):(do pure (if <- asBool c then a else b):Sem Value).run P w = .ok v w:=by
  cases c<;>simp[zBD]at h
  subst h
  simp[asBool]
theorem zAb5 {T:TypeId}{cs:Array Value}(h:zBI P T=some cs):(Instr.alloc T true (.tuple #[])).run P w = .ok (.pointer (some ⟨w.heap.size,0,none⟩)) { w with heap:=w.heap.push (.cells cs T (0,0)) }:=by
  unfold zBI at h
  cases hi:P.info? T with
  | none=>simp[hi]at h
  | some i =>
    simp only[hi,zAZ]at h
    cases hz:i.zero with
    | none=>simp[hz]at h
    | some z =>
      simp only[hz,zAT,zAn]at h
      subst h
      simp[Instr.alloc,zeroValue,zJJ hi,hz,newVar,newRow]
theorem zAeB {T:TypeId}{cs:Array Value}(h:zBI P T=some cs):∃ z,(zeroValue T).run P w = .ok z w/\z.cells=cs:=by
  unfold zBI at h
  cases hi:P.info? T with
  | none=>simp[hi]at h
  | some i =>
    simp only[hi,zAZ]at h
    cases hz:i.zero with
    | none=>simp[hz]at h
    | some z =>
      simp only[hz,zAT,zAn]at h
      exact⟨z,by simp[zeroValue,zJJ hi,hz],h⟩
theorem zAhx {T:TypeId}{v:Value}:(Instr.box T v).run P w = .ok (.pointer (some ⟨w.heap.size,0,none⟩)) { w with heap:=w.heap.push (.cells v.cells T (0,0)) }:=by
  simp[Instr.box,newVar,newRow]
theorem zAhy {o:Oper}{ρ:Operand->Value}{x:Operand}(ho:o.op = .nilCheck x){v:Value}(h:nck (ρ x)=some v):(execOp ρ o).run P w = .ok (.value v) w:=by
  unfold execOp
  rw[ho]
  simp only[]
  unfold nck at h
  split at h
  · rename_i a e;rw[e];cases h;rfl
  · rename_i f a b e;rw[e];cases h;rfl
  · cases h
theorem zAhz {S f:Nat}{p v:Value}{fs:Array Field}{fd:Field}(hu:P.underlying S=some (.struct fs))(hf:fs[f]? = some fd)(hs:P.cellsOf fd.type≠0)(h:fld fd.offset p=some v) :
    (Instr.fieldAt S p f).run P w = .ok v w:=by
  obtain⟨i,hi,his⟩:=zU9 hs
  unfold fld at h
  split at h
  · rename_i b o
    cases h
    have hs':¬ P.cellsOf fd.type=0:=hs
    simp[Instr.fieldAt,zCI hu,hf,Instr.sureAddr,fieldPlace,zEn hi,hs',zIx]
  · cases h
theorem zTz {T:TypeId}{d:TypeDesc}(hu:P.underlying T=some d){off:Nat}{cs:Array Value}{v:Value}(h:zVV (zNc P T) (P.cellsOf T) off (.agg cs)=some v) :
    (part T cs off).run P w = .ok v w:=by
  obtain⟨i,hi⟩:=zRu hu
  unfold zVV at h
  simp only at h
  unfold part
  cases ha:zNc P T with
  | true =>
    simp only[ha,if_true,zAn]at h
    simp[zRv hu,ha,zEn hi,h]
  | false =>
    simp only[ha,zAb,if_false]at h
    simp[zRv hu,ha,h]
theorem zAhA {T e:TypeId}(hu:P.underlying T=some (.slice e))(he:∃ i,P.info? e=some i){x i v:Value}(h:ixS (P.cellsOf e) x i=some v) :
    (Instr.indexAt T x i).run P w = .ok v w:=by
  obtain⟨ie,hie⟩:=he
  unfold ixS at h
  split at h
  · rename_i b o len cap k n
    split at h
    · rename_i hc
      cases h
      simp[Instr.indexAt,asIntOf,zCI hu,hc,zEn hie,zIx]
    · cases h
  · cases h
theorem zAhB {T e:TypeId}{n:Nat}(hu:P.underlying T=some (.array n e))(he:∃ i,P.info? e=some i){x i v:Value}(h:ixA n (P.cellsOf e) x i=some v) :
    (Instr.indexAt T x i).run P w = .ok v w:=by
  obtain⟨ie,hie⟩:=he
  unfold ixA at h
  split at h
  · rename_i b o k n
    split at h
    · rename_i hc
      cases h
      simp[Instr.indexAt,asIntOf,zCI hu,Instr.sureAddr,hc,zEn hie,zIx]
    · cases h
  · cases h
theorem zAhC {T:TypeId}(hu:P.underlying T=some .string){x i v:Value}(h:ixT x i=some v):(Instr.index T x i).run P w = .ok v w:=by
  unfold ixT at h
  split at h
  · rename_i s k n
    split at h
    · rename_i hn
      cases hs:s[n.toNat]? with
      | none=>simp[hs]at h
      | some b =>
        simp only[hs,zAT,zAn]at h
        simp[Instr.index,asIntOf,zCI hu,hn,hs,h]
    · cases h
  · cases h
theorem zAhD {T e:TypeId}{n:Nat}(hu:P.underlying T=some (.array n e)){d:TypeDesc}(he:P.underlying e=some d){x i v:Value}(h:ixV n (zNc P e) (P.cellsOf e) x i=some v) :
    (Instr.index T x i).run P w = .ok v w:=by
  obtain⟨ie,hie⟩:=zRu he
  unfold ixV at h
  split at h
  · rename_i cs k i
    split at h
    · rename_i hc
      have hp:=zTz (P:=P) (w:=w) he (off:=i.toNat*P.cellsOf e) (cs:=cs) (v:=v) (by unfold zVV;exact h)
      simp[Instr.index,asIntOf,zCI hu,hc,zEn hie,hp]
    · cases h
  · cases h
theorem zAhE {T:TypeId}{op:BinOp}{k:IntKind}{a b:Int}{v:Value}(h:zC8 op k a b=some v):(binOp op T (.int k a) (.int k b)).run P w = .ok v w:=by
  cases op<;>simp only[zC8,zAn]at h<;>first
    | (subst h;simp[binOp,Op.intArith,Op.intBits,Op.intCmp];done)
    | (split at h
       · cases h
       · rename_i hb
         simp only[zAn]at h
         subst h
         simp[binOp,Op.intDiv,Op.shift,hb])
theorem zW6 {T:TypeId}{op:BinOp}{k k':IntKind}{a b:Int}{v:Value}(ho:op = .shl\/op = .shr)(h:zC8 op k a b=some v):(binOp op T (.int k a) (.int k' b)).run P w = .ok v w:=by
  rcases ho with rfl|rfl <;>
  · simp only[zC8]at h
    split at h
    · cases h
    · rename_i hb
      simp only[zAn]at h
      subst h
      simp[binOp,Op.shift,hb]
theorem zAhF {T:TypeId}{op:BinOp}{a b:ByteArray}{v:Value}(h:zTt op a b=some v):(binOp op T (.string a) (.string b)).run P w = .ok v w:=by
  cases op<;>simp only[zTt,zAn]at h<;>first
    | (cases h;done)
    | (subst h;simp[binOp,Op.stringOp];done)
    | (split at h
       · cases h
       · rename_i hb
         simp only[zAn]at h
         subst h
         simp only[binOp,Op.stringOp]
         rw[if_neg hb]
         rfl)
theorem zAjD {op:UnOp}{x v:Value}(h:unV op x=some v):(Op.unary op x).run P w = .ok v w:=by
  cases x<;>cases op<;>simp[unV]at h<;>(subst h;simp[Op.unary,Op.intArith,Op.intBits])
theorem zAhG {x v:Value}{i:Nat}(h:zE0 i x=some v):(Instr.extract x i).run P w = .ok v w:=by
  cases x<;>simp only[zE0]at h<;>first
    | (cases h;done)
    | simp[Instr.extract,h]
theorem zOu {d top:Nat}{x:Value}{code:BoundsCode}{n:Nat}(h:bnd d top (some x)=some n):(Instr.sliceBound x top code).run P w = .ok n w:=by
  unfold bnd at h
  cases x<;>simp only[reduceCtorEq]at h
  rename_i k i
  split at h
  · rename_i hc
    cases h
    simp[Instr.sliceBound,asIntOf,hc]
  · cases h
theorem zVY {isS:Bool}{len cap:Nat}{low high max:Option Value}{l h m:Nat}(hb:zNp len cap low high max=some (l,h,m))(hm:(max.isSome&&high.isNone)=false) :
    (Instr.sliceBounds isS len cap low high max).run P w = .ok (l,h,m) w:=by
  unfold zNp at hb
  cases hm':bnd cap cap max with
  | none=>simp[hm']at hb
  | some m' =>
    simp only[hm',zAZ]at hb
    cases hh':bnd len m' high with
    | none=>simp[hh']at hb
    | some h' =>
      simp only[hh',zAZ]at hb
      cases hl':bnd 0 h' low with
      | none=>simp[hl']at hb
      | some l' =>
        simp only[hl',zAT,zAn,Prod.mk.injEq]at hb
        obtain⟨rfl,rfl,rfl⟩:=hb
        cases max with
        | none =>
          simp only[bnd,zAn]at hm'
          subst hm'
          cases high with
          | none =>
            simp only[bnd,zAn]at hh'
            subst hh'
            cases low with
            | none=>simp only[bnd,zAn]at hl';subst hl';simp[Instr.sliceBounds]
            | some lv=>simp[Instr.sliceBounds,zOu hl']
          | some hv =>
            cases low with
            | none=>simp only[bnd,zAn]at hl';subst hl';simp[Instr.sliceBounds,zOu hh']
            | some lv=>simp[Instr.sliceBounds,zOu hh',zOu hl']
        | some mv =>
          cases high with
          | none=>simp at hm
          | some hv =>
            cases low with
            | none=>simp only[bnd,zAn]at hl';subst hl';simp[Instr.sliceBounds,zOu hm',zOu hh']
            | some lv=>simp[Instr.sliceBounds,zOu hm',zOu hh',zOu hl']
theorem zAhH {T e:TypeId}(hu:P.underlying T=some (.slice e))(he:∃ i,P.info? e=some i){x v:Value}{low high max:Option Value}(h:slS (P.cellsOf e) x low high max=some v) :
    (Instr.sliceAt T x low high max).run P w = .ok v w:=by
  obtain⟨ie,hie⟩:=he
  unfold slS at h
  split at h
  · rename_i a len cap
    split at h
    · cases h
    · rename_i hm
      cases hb:zNp len cap low high max with
      | none=>simp[hb]at h
      | some t =>
        obtain⟨l,hh,m⟩:=t
        have hr:=zVY (P:=P) (w:=w) (isS:=true) hb (by revert hm;cases max.isSome<;>cases high.isNone<;>simp)
        simp only[hb,zAZ]at h
        have hfin:(Instr.sliceAt T (.slice a len cap) low high max).run P w = .ok (.slice (if m=l then a else a.map (·.add (l*P.cellsOf e))) (hh-l) (m-l)) w:=by
          simp[Instr.sliceAt,zCI hu,Instr.slice,hr,zEn hie]
        rw[hfin]
        rcases a with _|⟨b,o,_|s⟩
        · simp only[zAn]at h
          subst h
          simp
        · simp only[zAn]at h
          subst h
          by_cases hml:m=l<;>simp[hml,zIx]
        · simp only at h
          split at h
          · rename_i hl0
            simp only[zAn]at h
            subst h hl0
            have h0:(⟨b,o,some s⟩:Addr).add (0*P.cellsOf e)=⟨b,o,some s⟩:=by
              rw[Nat.zero_mul]
              unfold Addr.add
              split<;>simp_all
            by_cases hml:m=0
            · simp[hml]
            · simp only[hml,if_false,zAT,h0,Nat.sub_zero]
          · cases h
  · cases h
theorem zAhI {T e:TypeId}{n:Nat}(hu:P.underlying T=some (.array n e))(he:∃ i,P.info? e=some i){x v:Value}{low high max:Option Value}(h:slA n (P.cellsOf e) x low high max=some v) :
    (Instr.sliceAt T x low high max).run P w = .ok v w:=by
  obtain⟨ie,hie⟩:=he
  unfold slA at h
  split at h
  · rename_i b o
    split at h
    · cases h
    · rename_i hm
      cases hb:zNp n n low high max with
      | none=>simp[hb]at h
      | some t =>
        obtain⟨l,hh,m⟩:=t
        have hr:=zVY (P:=P) (w:=w) (isS:=false) hb (by revert hm;cases max.isSome<;>cases high.isNone<;>simp)
        simp only[hb,zAT,zAn]at h
        subst h
        by_cases hml:m=l<;>simp[Instr.sliceAt,zCI hu,Instr.sureAddr,hr,zEn hie,hml,zIx]
  · cases h
theorem zAhJ {T:TypeId}(hu:P.underlying T=some .string){x v:Value}{low high:Option Value}(h:slT x low high=some v) :
    (Instr.sliceAt T x low high none).run P w = .ok v w:=by
  unfold slT at h
  split at h
  · rename_i s
    cases hb:zNp s.size s.size low high none with
    | none=>simp[hb]at h
    | some t =>
      obtain⟨l,hh,m⟩:=t
      have hr:=zVY (P:=P) (w:=w) (isS:=false) hb (by simp)
      simp only[hb,zAT,zAn]at h
      subst h
      simp[Instr.sliceAt,zCI hu,Instr.slice,hr]
  · cases h
end
end Go.X
