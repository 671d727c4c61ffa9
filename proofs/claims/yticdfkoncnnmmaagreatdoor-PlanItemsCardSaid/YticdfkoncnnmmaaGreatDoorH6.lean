import Derived.Test.YticdfkoncnnmmaaGreatDoorG8
import Derived.Test.YticdfkoncnnmmaaGreatDoorG9
set_option linter.unusedSimpArgs false
set_option linter.unusedVariables false
set_option maxRecDepth 100000
namespace Go.Proofs.YticdfkoncnnmmaaGreatDoor
open Go.X Go.X.Diff Go.MapKept
theorem zAgc:zAgL prg zBd .string (str []):=⟨zAz,zAz,by kernel_rfl,by kernel_rfl,fun w=>by rfl⟩
def zWB (h:zAd)(q:Nat)(l:List (List UInt8×List UInt8)):Prop:=zLX h q (l.map fun e=>(str e.1,str e.2))
theorem zWB.keep {H H':zAd}{q:Nat}{l:List (List UInt8×List UInt8)}{S:Nat->Prop}(h:zWB H q l)(k:Keep S H H')(hs:¬ S q):zWB H' q l:=zLX.keep h k hs
theorem zUo {l:List (List UInt8×List UInt8)}:∀ x ∈ l.map (fun e=>(str e.1,str e.2)),IsKey .string x.1:=fun x hx=>by
 obtain⟨e,_,rfl⟩:=List.mem_map.1 hx
 exact trivial
theorem zPA {a b:List UInt8}(h:str a=str b):a=b:=by
 have h1:(⟨a.toArray⟩:ByteArray)=⟨b.toArray⟩:=by injection h
 have h2:a.toArray=b.toArray:=by injection h1
 simpa using congrArg Array.toList h2
def zXS (l:List (List UInt8×List UInt8))(n:List UInt8):Option (List UInt8):=(l.find? fun e=>decide (e.1=n)).map (·.2)
theorem zAcN {l:List (List UInt8×List UInt8)}(hn:(l.map (·.1)).Nodup){n v:List UInt8}(h:(n,v) ∈ l):zXS l n=some v:=by
 unfold zXS
 induction l with
 | nil=>cases h
 | cons e l ih =>
  rw[List.map_cons,List.nodup_cons]at hn
  rw[List.find?_cons]
  rcases List.mem_cons.1 h with rfl | h
  ·simp
  ·have hne:e.1≠n:=fun e1=>hn.1 (by rw[e1];exact List.mem_map.2 ⟨_,h,rfl⟩)
   rw[decide_eq_false hne]
   exact ih hn.2 h
theorem zAeu {l:List (List UInt8×List UInt8)}{n:List UInt8}(h:∀ e ∈ l,e.1≠n):zXS l n=none:=by
 unfold zXS
 rw[List.find?_eq_none.2 fun e he=>by simpa using h e he];rfl
theorem zUp {H:zAd}{q:Nat}{l:List (List UInt8×List UInt8)}{n:List UInt8}{ok:Bool}{k:Value->zAd->Prop}(h:zWB H q l)(hn:(l.map (·.1)).Nodup)(hk:k (zAeh ok (str ((zXS l n).getD [])) (zXS l n).isSome) H):zNt prg (Instr.lookup zBd (.map (some q)) (str n) ok) H k:=by
 refine zWu zAgc h zUo trivial (fun v hv=>?_) fun hno=>?_
 ·obtain⟨e,he,hev⟩:=List.mem_map.1 hv
  injection hev with h1 h2
  obtain rfl:=zPA h1
  rw[zAcN hn (v:=e.2) he]at hk
  rw[<- h2];exact hk
 ·rw[zAeu (l:=l) (n:=n) fun e he e1=>hno _ (List.mem_map.2 ⟨e,he,rfl⟩) (by rw[e1])]at hk
  exact hk
theorem zAbM {H:zAd}{q:Nat}{l:List (List UInt8×List UInt8)}{n v:List UInt8}{k:Value->zAd->Prop}(h:zWB H q l)(hno:∀ e ∈ l,e.1≠n)(hk:∀ H',zWB H' q (l++[(n,v)])->Keep (· = q) H H'->k undef H'):Msu prg (Instr.mapUpdate zBd (.map (some q)) (str n) (str v)) H k:=by
 refine zWv zAgc h zUo trivial (fun j w H' hj hm kk=>?_) fun H' _ hm kk=>?_
 ·obtain⟨e,he,hev⟩:=List.mem_map.1 (List.mem_of_getElem? hj)
  injection hev with h1 h2
  exact absurd (zPA h1) (hno e he)
 ·refine hk H' ?_ kk
  show zLX H' q _
  rw[List.map_append];exact hm
def zRA (a b:List UInt8):Bool:=zLz a b || zLz b a
abbrev zP2:=List (List UInt8×List UInt8)
def zMe (of:zP2)(m:Man):Bool:=m.files.any fun f=>of.any fun t=>!decide (t.2=m.name) && zRA f.name t.1
def zAaq (of:zP2)(m:Man):zP2:=of++m.files.map fun f=>(f.name,m.name)
def zFk (ps:List (List UInt8))(of:zP2)(m:Man):Int :=
 if !zEt m then 10 else if m.name ∈ ps then 44 else if zMe of m then 41 else 0
def zVt:List (List UInt8)->zP2->List Man->Int
 | _,_,[]=>0
 | ps,of,m :: l=>if zFk ps of m=0 then zVt (ps++[m.name]) (zAaq of m) l else zFk ps of m
structure OwnI (ps:List (List UInt8))(of:zP2):Prop where
 nd:(of.map (·.1)).Nodup
 mem:∀ t ∈ of,t.2 ∈ ps
theorem zVu {a:List UInt8}:zLz a a=true:=by unfold zLz;simp
theorem zXw {a:List UInt8}:zRA a a=true:=by unfold zRA;rw[zVu];rfl
theorem zWC {ps:List (List UInt8)}{of:zP2}{m:Man}(h:zFk ps of m=0):zEt m=true/\m.name ∉ ps/\zMe of m=false:=by
 unfold zFk at h
 cases h1:zEt m
 ·rw[h1]at h;simp at h
 ·rw[h1]at h
  by_cases h2:m.name ∈ ps
  ·rw[if_pos h2]at h;simp at h
  ·rw[if_neg h2]at h
   cases h3:zMe of m
   ·exact⟨rfl,h2,rfl⟩
   ·rw[h3]at h;simp at h
theorem zZJ {ps:List (List UInt8)}{of:zP2}{m:Man}(hI:OwnI ps of)(hn:m.name ∉ ps)(hc:zMe of m=false):∀ f ∈ m.files,f.name ∉ of.map (·.1):=by
 intro f hf hm
 obtain⟨t,ht,e⟩:=List.mem_map.1 hm
 unfold zMe at hc
 have h1:(of.any fun t=>!decide (t.2=m.name) && zRA f.name t.1)=false:=Bool.eq_false_iff.2 (List.any_eq_false.1 hc f hf)
 have h2:=List.any_eq_false.1 h1 t ht
 rw[e,zXw,Bool.and_true]at h2
 have:t.2=m.name:=by simpa using h2
 exact hn (this ▸ hI.mem t ht)
end Go.Proofs.YticdfkoncnnmmaaGreatDoor
