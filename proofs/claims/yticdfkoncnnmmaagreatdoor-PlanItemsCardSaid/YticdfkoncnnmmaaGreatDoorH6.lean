import Derived.Test.YticdfkoncnnmmaaGreatDoorG8
import Derived.Test.YticdfkoncnnmmaaGreatDoorG9
set_option linter.unusedSimpArgs false
set_option linter.unusedVariables false
namespace Go.Proofs.YticdfkoncnnmmaaGreatDoor
open Go.X Go.X.Diff Go.MapKept
set_option maxRecDepth 100000
set_option linter.unusedSimpArgs false
set_option linter.unusedVariables false
theorem t_mss:MapT prg zA1 .string(str []):=⟨zAu,zAu,by kernel_rfl,by kernel_rfl,fun w=>by rfl⟩
def SMap(h:Heap)(q:Nat)(l:List(List UInt8×List UInt8)):Prop:=MapAt h q(l.map fun e=>(str e.1,str e.2))
theorem SMap.keep{H H':Heap}{q:Nat}{l:List(List UInt8×List UInt8)}{S:Nat→Prop}(h:SMap H q l)(k:Keep S H H')(hs:¬ S q):SMap H' q l:=MapAt.keep h k hs
theorem zQp{l:List(List UInt8×List UInt8)}:∀ x ∈ l.map(fun e=>(str e.1,str e.2)),IsKey .string x.1:=fun x hx=>by
  obtain⟨e,_,rfl⟩:=List.mem_map.1 hx
  exact trivial
theorem zKA{a b:List UInt8}(h:str a=str b):a=b:=by
  have h1:(⟨a.toArray⟩:ByteArray)=⟨b.toArray⟩:=by injection h
  have h2:a.toArray=b.toArray:=by injection h1
  simpa using congrArg Array.toList h2
def bySt(l:List(List UInt8×List UInt8))(n:List UInt8):Option(List UInt8):=(l.find? fun e=>decide(e.1=n)).map(·.2)
theorem zUN{l:List(List UInt8×List UInt8)}(hn:(l.map(·.1)).Nodup){n v:List UInt8}(h:(n,v) ∈ l):bySt l n=some v:=by
  unfold bySt
  induction l with
  | nil=>cases h
  | cons e l ih =>
    rw[List.map_cons,List.nodup_cons]at hn
    rw[List.find?_cons]
    rcases List.mem_cons.1 h with rfl | h
    · simp
    · have hne:e.1≠n:=fun e1=>hn.1(by rw[e1];exact List.mem_map.2⟨_,h,rfl⟩)
      rw[decide_eq_false hne]
      exact ih hn.2 h
theorem zXn{l:List(List UInt8×List UInt8)}{n:List UInt8}(h:∀ e ∈ l,e.1≠n):bySt l n=none:=by
  unfold bySt
  rw[List.find?_eq_none.2 fun e he=>by simpa using h e he];rfl
theorem zQq{H:Heap}{q:Nat}{l:List(List UInt8×List UInt8)}{n:List UInt8}{ok:Bool}{k:Value→Heap→Prop}(h:SMap H q l)(hn:(l.map(·.1)).Nodup)(hk:k(mres ok(str((bySt l n).getD []))(bySt l n).isSome)H):Msem prg(Instr.lookup zA1(.map(some q))(str n)ok)H k:=by
  refine zRA t_mss h zQp trivial(fun v hv=>?_)fun hno=>?_
  · obtain⟨e,he,hev⟩:=List.mem_map.1 hv
    injection hev with h1 h2
    obtain rfl:=zKA h1
    rw[zUN hn(v:=e.2)he]at hk
    rw[← h2];exact hk
  · rw[zXn(l:=l)(n:=n)fun e he e1=>hno _(List.mem_map.2⟨e,he,rfl⟩)(by rw[e1])]at hk
    exact hk
theorem zV5{H:Heap}{q:Nat}{l:List(List UInt8×List UInt8)}{n v:List UInt8}{k:Value→Heap→Prop}(h:SMap H q l)(hno:∀ e ∈ l,e.1≠n)(hk:∀ H',SMap H' q(l++[(n,v)])→Keep(· = q)H H'→k undef H'):Msu prg(Instr.mapUpdate zA1(.map(some q))(str n)(str v))H k:=by
  refine zRB t_mss h zQp trivial(fun j w H' hj hm kk=>?_)fun H' _ hm kk=>?_
  · obtain⟨e,he,hev⟩:=List.mem_map.1(List.mem_of_getElem? hj)
    injection hev with h1 h2
    exact absurd(zKA h1)(hno e he)
  · refine hk H' ?_ kk
    show MapAt H' q _
    rw[List.map_append];exact hm
end Go.Proofs.YticdfkoncnnmmaaGreatDoor
namespace Go.Proofs.YticdfkoncnnmmaaGreatDoor
open Go.X Go.X.Diff
set_option maxRecDepth 100000
def meetF(a b:List UInt8):Bool:=underF a b || underF b a
abbrev OwnL:=List(List UInt8×List UInt8)
def clashO(of:OwnL)(m:Man):Bool:=m.files.any fun f=>of.any fun t=>!decide(t.2=m.name) && meetF f.name t.1
def addO(of:OwnL)(m:Man):OwnL:=of++m.files.map fun f=>(f.name,m.name)
def ownAdd(ps:List(List UInt8))(of:OwnL)(m:Man):Int :=
  if !manOkG m then 10 else if m.name ∈ ps then 44 else if clashO of m then 41 else 0
def ownE:List(List UInt8)→OwnL→List Man→Int
  | _,_,[]=>0
  | ps,of,m :: l=>if ownAdd ps of m=0 then ownE(ps++[m.name])(addO of m)l else ownAdd ps of m
structure OwnI(ps:List(List UInt8))(of:OwnL):Prop where
  nd:(of.map(·.1)).Nodup
  mem:∀ t ∈ of,t.2 ∈ ps
theorem zSp{a:List UInt8}:underF a a=true:=by unfold underF;simp
theorem zTz{a:List UInt8}:meetF a a=true:=by unfold meetF;rw[zSp];rfl
theorem zRN{ps:List(List UInt8)}{of:OwnL}{m:Man}(h:ownAdd ps of m=0):manOkG m=true∧m.name ∉ ps∧clashO of m=false:=by
  unfold ownAdd at h
  cases h1:manOkG m
  · rw[h1]at h;simp at h
  · rw[h1]at h
    by_cases h2:m.name ∈ ps
    · rw[if_pos h2]at h;simp at h
    · rw[if_neg h2]at h
      cases h3:clashO of m
      · exact⟨rfl,h2,rfl⟩
      · rw[h3]at h;simp at h
theorem zSS{ps:List(List UInt8)}{of:OwnL}{m:Man}(hI:OwnI ps of)(hn:m.name ∉ ps)(hc:clashO of m=false):∀ f ∈ m.files,f.name ∉ of.map(·.1):=by
  intro f hf hm
  obtain⟨t,ht,e⟩:=List.mem_map.1 hm
  unfold clashO at hc
  have h1:(of.any fun t=>!decide(t.2=m.name) && meetF f.name t.1)=false:=Bool.eq_false_iff.2(List.any_eq_false.1 hc f hf)
  have h2:=List.any_eq_false.1 h1 t ht
  rw[e,zTz,Bool.and_true]at h2
  have:t.2=m.name:=by simpa using h2
  exact hn(this ▸ hI.mem t ht)
end Go.Proofs.YticdfkoncnnmmaaGreatDoor
