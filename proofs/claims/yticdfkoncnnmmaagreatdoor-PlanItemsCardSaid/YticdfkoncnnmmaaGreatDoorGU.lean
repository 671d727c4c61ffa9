import GoSem.Op.String
import Derived.Test.YticdfkoncnnmmaaGreatDoorGI
import Derived.Lib.IndexLaws
set_option linter.unusedSimpArgs false
set_option linter.unusedVariables false
set_option linter.unusedSectionVars false
namespace Go.X.Diff
abbrev less (a b:List UInt8):Bool:=Op.bytesLess a b
theorem zN8:∀ a:List UInt8,less a a=false
 | []=>rfl
 | a :: l=>by
  have h:=zN8 l
  simp only[less,Op.bytesLess]at h ⊢
  rw[h];simp
theorem zPp:∀ {a b c:List UInt8},less a b=true->less b c=true->less a c=true
 | _,[],_,h,_=>by cases ‹List UInt8› <;> simp[less,Op.bytesLess]at h
 | _,_ :: _,[],_,h=>by simp[less,Op.bytesLess]at h
 | [],_ :: _,_ :: _,_,_=>rfl
 | a :: x,b :: y,c :: z,h1,h2=>by
  simp only[less,Op.bytesLess,Bool.or_eq_true,Bool.and_eq_true,decide_eq_true_eq,beq_iff_eq]at h1 h2 ⊢
  rcases h1 with h1 | ⟨rfl,h1⟩
  ·rcases h2 with h2 | ⟨rfl,h2⟩
   ·exact .inl (UInt8.lt_trans h1 h2)
   ·exact .inl h1
  ·rcases h2 with h2 | ⟨rfl,h2⟩
   ·exact .inl h2
   ·exact .inr ⟨rfl,zPp h1 h2⟩
theorem zNj:∀ {a b:List UInt8},less a b=false->less b a=false->a=b
 | [],[],_,_=>rfl
 | [],_ :: _,h,_=>by simp[less,Op.bytesLess]at h
 | _ :: _,[],_,h=>by simp[less,Op.bytesLess]at h
 | a :: x,b :: y,h1,h2=>by
  simp only[less,Op.bytesLess,Bool.or_eq_false_iff,Bool.and_eq_false_iff,decide_eq_false_iff_not,beq_eq_false_iff_ne]at h1 h2
  have hab:a=b:=by
   rcases UInt8.lt_or_eq_of_le (UInt8.not_lt.1 h2.1) with h | h
   ·exact absurd h h1.1
   ·exact h
  subst hab
  have e1:=h1.2.resolve_left fun h=>h rfl
  have e2:=h2.2.resolve_left fun h=>h rfl
  rw[zNj e1 e2]
theorem zYN {a b:List UInt8}(h:less a b=true):a≠b:=by
 rintro rfl;rw[zN8]at h;cases h
theorem zXd {a b:List UInt8}(h:less a b=true):less b a=false:=by
 cases hb:less b a with
 | false=>rfl
 | true=>have:=zPp h hb;rw[zN8]at this;cases this
structure zAg7 where
 name:List UInt8
 fr:List UInt8
 to:List UInt8
def zAg7.turn (s:zAg7):zAg7:=⟨s.name,s.to,s.fr⟩
section
variable {α:Type} [DecidableEq α] (nm sh:α->List UInt8)
def Ris (l:List α):Prop:=l.Pairwise fun x y=>less (nm x) (nm y)=true
variable {nm sh}
theorem Ris.cons {x:α}{l:List α}(h:Ris nm (x :: l)):(∀ y ∈ l,less (nm x) (nm y)=true)/\Ris nm l:=List.pairwise_cons.1 h
end
end Go.X.Diff
namespace Go.Proofs.YticdfkoncnnmmaaGreatDoor
open Go.X Go.X.Diff
structure zP1 {α:Type}(c:α->α->Int):Prop where
 three:∀ a b,c a b = -1\/c a b=0\/c a b=1
 turn:∀ a b,c b a = -(c a b)
 zero:∀ a b,c a b=0↔a=b
 trans:∀ {a b d},c a b<=0->c b d<=0->c a d<=0
namespace zP1
variable {α β:Type} {c:α->α->Int} {e:β->β->Int}
theorem self (h:zP1 c)(a:α):c a a=0:=(h.zero a a).2 rfl
theorem both (h:zP1 c){a b:α}(h1:c a b<=0)(h2:c b a<=0):a=b:=by
 have:=h.turn a b;exact(h.zero a b).1 (by omega)
theorem chain (h:zP1 c){a b d:α}(h1:c a b<=0)(h2:c b d<=0):c a d=0↔(a=b/\b=d):=by
 constructor
 ·intro h0
  obtain rfl:=(h.zero a d).1 h0
  have:=h.both h1 h2
  exact⟨this,this.symm⟩
 ·rintro⟨rfl,rfl⟩;exact h.self _
theorem lt_le (h:zP1 c){a b d:α}(h1:c a b<0)(h2:c b d<=0):c a d<0:=by
 have h3:=h.trans (Int.le_of_lt h1) h2
 have h4:=(h.chain (Int.le_of_lt h1) h2)
 have:c a d≠0:=fun h0=>by
  obtain⟨rfl,_⟩:=h4.1 h0
  rw[h.self]at h1;omega
 omega
def lex (c:α->α->Int)(e:β->β->Int)(a b:α×β):Int:=if c a.1 b.1≠0 then c a.1 b.1 else e a.2 b.2
theorem lex_ord (h:zP1 c)(k:zP1 e):zP1 (lex c e) where
 three a b:=by
  unfold lex;split
  ·exact h.three _ _
  ·exact k.three _ _
 turn a b:=by
  unfold lex
  have h1:=h.turn a.1 b.1
  have h2:=k.turn a.2 b.2
  split <;> split <;> omega
 zero a b:=by
  unfold lex
  have h1:=h.zero a.1 b.1
  have h2:=k.zero a.2 b.2
  split
  ·rename_i hn
   constructor
   ·intro h0;exact absurd h0 hn
   ·rintro rfl;exact absurd (h1.2 rfl) hn
  ·rename_i hn
   have:=h1.1 (Classical.not_not.1 hn)
   rw[h2]
   exact⟨fun h=>Prod.ext this h,fun h=>by rw[h]⟩
 trans {a b d} h1 h2:=by
  unfold lex at h1 h2 ⊢
  split at h1
  ·rename_i n1
   split at h2
   ·rename_i n2
    have:=h.lt_le (a:=a.1) (b:=b.1) (d:=d.1) (by omega) h2
    rw[if_pos (by omega)];omega
   ·rename_i n2
    have e1:=(h.zero _ _).1 (Classical.not_not.1 n2)
    rw[<- e1,if_pos n1];exact h1
  ·rename_i n1
   have e1:=(h.zero _ _).1 (Classical.not_not.1 n1)
   rw[e1]
   split at h2
   ·rename_i n2
    rw[if_pos n2];exact h2
   ·rename_i n2
    rw[if_neg n2];exact k.trans h1 h2
theorem pull {f:β->α}(h:zP1 c)(hf:∀ a b,f a=f b->a=b):zP1 fun a b=>c (f a) (f b) where
 three a b:=h.three _ _
 turn a b:=h.turn _ _
 zero a b:=by rw[h.zero];exact⟨hf a b,fun h=>by rw[h]⟩
 trans h1 h2:=h.trans h1 h2
end zP1
def zXe (a b:Int):Int:=if a<b then -1 else if b<a then 1 else 0
theorem zIC:zP1 zXe where
 three a b:=by
  unfold zXe
  split
  ·simp
  split <;> simp
 turn a b:=by unfold zXe;split <;> split <;> first | omega | (split <;> omega)
 zero a b:=by
  unfold zXe
  split
  ·omega
  split <;> omega
 trans {a b d} h1 h2:=by
  unfold zXe at *
  split at h1 <;> split at h2 <;> split <;> first | omega | (split <;> split at h1 <;> split at h2 <;> omega) | (split <;> split at h1 <;> omega) | (split <;> split at h2 <;> omega) | (split <;> omega)
def zK6 (a b:List UInt8):Int:=if less a b=true then -1 else if less b a=true then 1 else 0
theorem zEL:zP1 zK6 where
 three a b:=by
  unfold zK6
  split
  ·simp
  split <;> simp
 turn a b:=by
  unfold zK6
  by_cases h1:less a b=true
  ·simp[h1,zXd h1]
  ·rw[if_neg h1]
   by_cases h2:less b a=true
   ·simp[h1,h2]
   ·rw[if_neg h2,if_neg h2,if_neg h1];rfl
 zero a b:=by
  unfold zK6
  by_cases h1:less a b=true
  ·rw[if_pos h1];exact⟨fun h=>by omega,fun h=>absurd h (zYN h1)⟩
  ·rw[if_neg h1]
   by_cases h2:less b a=true
   ·rw[if_pos h2];exact⟨fun h=>by omega,fun h=>absurd h.symm (zYN h2)⟩
   ·rw[if_neg h2];exact⟨fun _=>zNj (by simpa using h1) (by simpa using h2),fun _=>rfl⟩
 trans {a b d} h1 h2:=by
  unfold zK6 at *
  by_cases a1:less a b=true
  ·by_cases a2:less b d=true
   ·rw[if_pos (zPp a1 a2)];omega
   ·rw[if_neg a2]at h2
    by_cases a3:less d b=true
    ·rw[if_pos a3]at h2;omega
    ·have:=zNj (by simpa using a2) (by simpa using a3)
     rw[<- this,if_pos a1];omega
  ·rw[if_neg a1]at h1
   by_cases a3:less b a=true
   ·rw[if_pos a3]at h1;omega
   ·have:=zNj (by simpa using a1) (by simpa using a3)
    rw[this];exact h2
def zRZ:List Int->List Int->Int
 | [],[]=>0
 | [],_ :: _ => -1
 | _ :: _,[]=>1
 | a :: x,b :: y=>if zXe a b≠0 then zXe a b else zRZ x y
theorem zKb {a b:Int}{x y:List Int}:zRZ (a :: x) (b :: y)=if zXe a b≠0 then zXe a b else zRZ x y:=rfl
theorem zV6:zP1 zRZ where
 three:=by
  intro a
  induction a with
  | nil=>intro b;cases b <;> simp[zRZ]
  | cons a x ih =>
   intro b
   cases b with
   | nil=>simp[zRZ]
   | cons b y =>
    rw[zKb]
    split
    ·exact zIC.three _ _
    exact ih y
 turn:=by
  intro a
  induction a with
  | nil=>intro b;cases b <;> simp[zRZ]
  | cons a x ih =>
   intro b
   cases b with
   | nil=>simp[zRZ]
   | cons b y =>
    rw[zKb,zKb]
    have h1:=zIC.turn a b
    have h2:=ih y
    split <;> split <;> omega
 zero:=by
  intro a
  induction a with
  | nil=>intro b;cases b <;> simp[zRZ]
  | cons a x ih =>
   intro b
   cases b with
   | nil=>simp[zRZ]
   | cons b y =>
    rw[zKb]
    have h1:=zIC.zero a b
    split
    ·rename_i hn
     constructor
     ·intro h0;exact absurd h0 hn
     ·intro h;injection h with e1 e2;exact absurd (h1.2 e1) hn
    ·rename_i hn
     have:=h1.1 (Classical.not_not.1 hn)
     rw[ih y,this];simp
 trans:=by
  intro a
  induction a with
  | nil=>intro b d h1 h2;cases b <;> cases d <;> simp[zRZ]at *
  | cons a x ih =>
   intro b d h1 h2
   cases b with
   | nil=>simp[zRZ]at h1
   | cons b y =>
    cases d with
    | nil=>simp[zRZ]at h2
    | cons d z =>
     rw[zKb]at *
     split at h1
     ·rename_i n1
      split at h2
      ·rename_i n2
       have:=zIC.lt_le (a:=a) (b:=b) (d:=d) (by omega) h2
       rw[if_pos (by omega)];omega
      ·rename_i n2
       have e1:=(zIC.zero b d).1 (Classical.not_not.1 n2)
       rw[<- e1,if_pos n1];exact h1
     ·rename_i n1
      have e1:=(zIC.zero a b).1 (Classical.not_not.1 n1)
      rw[e1]
      split at h2
      ·rename_i n2
       rw[if_pos n2];exact h2
      ·rename_i n2
       rw[if_neg n2];exact ih h1 h2
def zAfC (a b:List UInt8):Int:=if decide (a=[]) != decide (b=[]) then zK6 b a else zK6 a b
def zAgK (a:List UInt8):Int:=if a=[] then 1 else 0
theorem zV7 {a:List UInt8}(h:a≠[]):zK6 [] a = -1/\zK6 a []=1:=by
 cases a with
 | nil=>exact absurd rfl h
 | cons x l=>exact⟨rfl,rfl⟩
theorem zAba:zAfC=fun a b=>zP1.lex zXe zK6 (zAgK a,a) (zAgK b,b):=by
 funext a b
 unfold zAfC zP1.lex zAgK
 by_cases ha:a=[]
 ·by_cases hb:b=[]
  ·subst ha hb;rfl
  ·subst ha
   simp only[decide_true,if_true,decide_eq_false hb,if_neg hb]
   rw[(zV7 hb).2];rfl
 ·by_cases hb:b=[]
  ·subst hb
   simp only[decide_true,if_true,decide_eq_false ha,if_neg ha]
   rw[(zV7 ha).1];rfl
  ·simp only[decide_eq_false ha,if_neg ha,decide_eq_false hb,if_neg hb];rfl
theorem zAbb:zP1 zAfC:=by
 rw[zAba]
 exact(zP1.lex_ord zIC zEL).pull (f:=fun a=>(zAgK a,a)) fun a b h=>congrArg Prod.snd h
def zAao (v w:Ver):Int:=if zRZ v.p w.p≠0 then zRZ v.p w.p else zAfC v.pre w.pre
theorem zNk:zP1 zAao :=
 (zP1.lex_ord zV6 zAbb).pull (f:=fun v:Ver=>(v.p,v.pre)) fun a b h=>by
  cases a;cases b;simp only[Prod.mk.injEq]at h;simp[h.1,h.2]
def ltV (v w:Ver):Bool:=decide (zAao v w<0)
end Go.Proofs.YticdfkoncnnmmaaGreatDoor
namespace Go.Proofs.YticdfkoncnnmmaaGreatDoor
open Go.X Go.X.Diff
def zSI (c:UInt8)(l:List UInt8):List UInt8:=l.takeWhile (· != c)
def zUF (c:UInt8)(l:List UInt8):List UInt8:=(l.dropWhile (· != c)).drop 1
def zBR (c:UInt8):List UInt8->List (List UInt8)
 | []=>[[]]
 | x :: l=>if x=c then [] :: zBR c l else match zBR c l with
  | []=>[[x]]
  | h :: t=>(x :: h) :: t
theorem zN9 {c:UInt8}:∀ {l:List UInt8},c ∉ l->zBR c l=[l]
 | [],_=>rfl
 | x :: l,h=>by
  simp only[List.mem_cons,not_or]at h
  rw[zBR,if_neg (fun e=>h.1 e.symm),zN9 h.2]
theorem zLV {c:UInt8}{b:List UInt8}:∀ {a:List UInt8},c ∉ a->zBR c (a++c :: b)=a :: zBR c b
 | [],_=>by rw[List.nil_append,zBR,if_pos rfl]
 | x :: l,h=>by
  simp only[List.mem_cons,not_or]at h
  rw[List.cons_append,zBR,if_neg (fun e=>h.1 e.symm),zLV h.2]
theorem zV8 {c:UInt8}{l:List UInt8}(h:c ∉ l):zSI c l=l/\zUF c l=[]:=by
 have hp:∀ x ∈ l,(x != c)=true:=fun x hx=>by simp only[bne_iff_ne];rintro rfl;exact h hx
 unfold zSI zUF
 have h1:=List.takeWhile_append_of_pos (l₂:=[]) hp
 have h2:=List.dropWhile_append_of_pos (l₂:=[]) hp
 simp only[List.append_nil,List.takeWhile_nil,List.dropWhile_nil]at h1 h2
 rw[h1,h2];exact⟨rfl,rfl⟩
theorem zV9 {c:UInt8}{a b:List UInt8}(h:c ∉ a):zSI c (a++c :: b)=a/\zUF c (a++c :: b)=b:=by
 have hp:∀ x ∈ a,(x != c)=true:=fun x hx=>by simp only[bne_iff_ne];rintro rfl;exact h hx
 unfold zSI zUF
 rw[List.takeWhile_append_of_pos hp,List.dropWhile_append_of_pos hp];simp
theorem zR0 {l:List UInt8}{c:UInt8}(h:Lib.indexByte l c = -1):c ∉ l:=fun hm=>by
 obtain⟨k,hk⟩:=List.getElem?_of_mem hm
 exact Lib.indexByte_none h k hk
theorem zR1 {l:List UInt8}{c:UInt8}{o:Nat}(h:Lib.indexByte l c=o):o<l.length/\c ∉ l.take o/\l=l.take o++c :: l.drop (o+1):=by
 obtain⟨h1,h2⟩:=Lib.indexByte_some h
 obtain⟨hlt,he⟩:=List.getElem?_eq_some_iff.1 h1
 refine⟨hlt,fun hm=>?_,?_⟩
 ·obtain⟨k,hk⟩:=List.getElem?_of_mem hm
  rw[List.getElem?_take]at hk
  split at hk
  ·rename_i hlt;exact h2 k hlt hk
  ·cases hk
 ·conv=>lhs;rw[<- List.take_append_drop o l]
  rw[List.drop_eq_getElem_cons hlt,he]
theorem zQT (l:List UInt8)(c:UInt8):Lib.indexByte l c = -1\/∃ o:Nat,Lib.indexByte l c=o:=by
 have:=Lib.indexByte_ge l c
 by_cases h:Lib.indexByte l c = -1
 ·exact .inl h
 ·exact .inr ⟨(Lib.indexByte l c).toNat,by omega⟩
theorem zOa (n:Nat):∀ x ∈ zEZ n,48<=x.toNat/\x.toNat<=57:=by
 induction n using Nat.strongRecOn with
 | ind n ih =>
  intro x hx
  have hd:∀ m,m<10->(zBs m).toNat=48+m:=fun m hm=>by unfold zBs;rw[UInt8.toNat_ofNat'];omega
  rw[zEZ]at hx
  split at hx
  ·obtain rfl:x=zBs n:=by simpa using hx
   rw[hd _ (by omega)];omega
  ·rcases List.mem_append.1 hx with hx | hx
   ·exact ih _ (by omega) x hx
   ·obtain rfl:x=zBs (n % 10):=by simpa using hx
    rw[hd _ (by omega)];omega
theorem zAdM (n:Nat):zEZ n≠[]:=by rw[zEZ];split <;> simp
def zXM (l:List UInt8):Nat:=l.foldl (fun n c=>n * 10+(c.toNat - 48)) 0
theorem zTX {l:List UInt8}{c:UInt8}:zXM (l++[c])=zXM l * 10+(c.toNat - 48):=by simp[zXM]
theorem zSJ (n:Nat):zXM (zEZ n)=n:=by
 induction n using Nat.strongRecOn with
 | ind n ih =>
  have hd:∀ m,m<10->(zBs m).toNat=48+m:=fun m hm=>by unfold zBs;rw[UInt8.toNat_ofNat'];omega
  rw[zEZ]
  split
  ·show 0 * 10+((zBs n).toNat - 48)=n
   rw[hd _ (by omega)];omega
  ·rw[zTX,ih _ (by omega),hd _ (by omega)];omega
def zSK (l:List UInt8)(n:Int):Prop:=∀ m:Nat,m<=999999->l=zEZ m->n=m
structure zAh5 (s:List UInt8)(v:Ver):Prop where
 p3:v.p.length=3
 pre:v.pre=zUF 45 s
 parts:∀ (i:Nat) (l:List UInt8),(zBR 46 (zSI 45 s))[i]? = some l->∃ n,v.p[i]? = some n/\zSK l n
theorem zLt {v:Ver}(hp:v.p.length=3)(hok:zEX v=true):zBR 46 (zSI 45 (zFH v))=v.p.map (fun n=>zEZ n.toNat)/\zUF 45 (zFH v)=v.pre:=by
 obtain⟨p,pre⟩:=v
 have hnot:∀ (n:Nat) (c:UInt8),c.toNat<48->c ∉ zEZ n:=fun n c hc hm=>by have:=zOa n c hm;omega
 match p,hp with
 | [a,b,c],_ =>
  unfold zFH
  rw[if_pos hok]
  simp only[zNF,List.map_cons,List.map_nil,List.flatten_cons,List.flatten_nil,List.append_nil]
  have h45:(45:UInt8) ∉ zEZ a.toNat++([46]++zEZ b.toNat++([46]++zEZ c.toNat)):=by
   simp only[List.mem_append,List.mem_singleton,not_or]
   exact⟨hnot _ _ (by decide),⟨by decide,hnot _ _ (by decide)⟩,by decide,hnot _ _ (by decide)⟩
  have hs:zBR 46 (zEZ a.toNat++([46]++zEZ b.toNat++([46]++zEZ c.toNat)))=[zEZ a.toNat,zEZ b.toNat,zEZ c.toNat]:=by
   rw[show zEZ a.toNat++([46]++zEZ b.toNat++([46]++zEZ c.toNat))=zEZ a.toNat++46 :: (zEZ b.toNat++46 :: zEZ c.toNat) by simp]
   rw[zLV (hnot _ _ (by decide)),zLV (hnot _ _ (by decide)),zN9 (hnot _ _ (by decide))]
  split
  ·rename_i he
   rw[List.append_nil]
   obtain⟨e1,e2⟩:=zV8 h45
   rw[e1,e2];exact⟨hs,he.symm⟩
  ·obtain⟨e1,e2⟩:=zV9 (b:=pre) h45
   rw[e1,e2];exact⟨hs,rfl⟩
theorem zAbc {v:Ver}(hp:v.p.length=3)(hok:zEX v=true):zFH v≠[]:=by
 intro h
 have:=(zLt hp hok).1
 rw[h]at this
 have:=congrArg List.length this
 simp[zSI,zBR,hp]at this
theorem zWa {v w:Ver}{s:List UInt8}(hw:w.p.length=3)(hok:zEX w=true)(hs:zFH w=s)(h:zAh5 s v):v=w:=by
 obtain⟨e1,e2⟩:=zLt hw hok
 rw[hs]at e1 e2
 obtain⟨h1,h2,h3⟩:=h
 rw[e2]at h2
 rw[e1]at h3
 obtain⟨p,pre⟩:=v
 obtain⟨q,qre⟩:=w
 simp only at *
 match p,q,h1,hw with
 | [x,y,z],[a,b,c],_,_ =>
  have hall:[a,b,c].all zKH=true:=by unfold zEX at hok;simp only[Bool.and_eq_true]at hok;exact hok.1
  have ha:=zG3 (List.all_eq_true.1 hall a (by simp))
  have hb:=zG3 (List.all_eq_true.1 hall b (by simp))
  have hc:=zG3 (List.all_eq_true.1 hall c (by simp))
  obtain⟨n0,k0,r0⟩:=h3 0 _ rfl
  obtain⟨n1,k1,r1⟩:=h3 1 _ rfl
  obtain⟨n2,k2,r2⟩:=h3 2 _ rfl
  have r0:=r0 a.toNat (by omega) rfl
  have r1:=r1 b.toNat (by omega) rfl
  have r2:=r2 c.toNat (by omega) rfl
  simp at k0 k1 k2
  subst k0 k1 k2 h2
  congr 1
  congr 1
  ·omega
  ·congr 1
   ·omega
   ·congr 1;omega
theorem zAbd {v w:Ver}(hv:v.p.length=3)(hw:w.p.length=3)(ho:zEX v=true)(ho2:zEX w=true)(h:zFH v=zFH w):v=w:=by
 refine zWa (s:=zFH w) hw ho2 rfl ⟨hv,?_,?_⟩
 ·rw[<- h];exact(zLt hv ho).2.symm
 ·intro i l hl
  rw[<- h,(zLt hv ho).1,List.getElem?_map]at hl
  obtain⟨n,hn,rfl⟩:=Option.map_eq_some_iff.1 hl
  refine⟨n,hn,fun m _ he=>?_⟩
  have:=congrArg zXM he
  rw[zSJ,zSJ]at this
  have hall:v.p.all zKH=true:=by unfold zEX at ho;simp only[Bool.and_eq_true]at ho;exact ho.1
  have:=zG3 (List.all_eq_true.1 hall n (List.mem_of_getElem? hn))
  omega
theorem zRx {v:Ver}(hp:v.p.length=3)(hok:zEX v=true):(zBR 46 (zSI 45 (zFH v))).length=3:=by
 rw[(zLt hp hok).1,List.length_map,hp]
theorem zOL {v:Ver}(hp:v.p.length=3):(zFH v).length<=40:=by
 unfold zFH
 split
 ·rename_i hok
  obtain⟨p,pre⟩:=v
  match p,hp with
  | [a,b,c],_ =>
   have hall:[a,b,c].all zKH=true:=by unfold zEX at hok;simp only[Bool.and_eq_true]at hok;exact hok.1
   have hpre:pre.length<=16:=by unfold zEX zYK at hok;simp only[Bool.and_eq_true,decide_eq_true_eq]at hok;exact hok.2.1
   have ha:=zG3 (List.all_eq_true.1 hall a (by simp))
   have hb:=zG3 (List.all_eq_true.1 hall b (by simp))
   have hc:=zG3 (List.all_eq_true.1 hall c (by simp))
   have l1:=zLT (n:=a.toNat) (by omega)
   have l2:=zLT (n:=b.toNat) (by omega)
   have l3:=zLT (n:=c.toNat) (by omega)
   simp only[zNF,List.map_cons,List.map_nil,List.flatten_cons,List.flatten_nil,List.append_nil]
   split <;> simp <;> omega
 ·simp
end Go.Proofs.YticdfkoncnnmmaaGreatDoor
