import GoSem.Op.String
import Derived.Test.YticdfkoncnnmmaaGreatDoorGI
import Derived.Lib.IndexLaws
import Derived.Test.YticdfkoncnnmmaaGreatDoorGH
import Derived.Test.YticdfkoncnnmmaaGreatDoorGE
set_option linter.unusedSimpArgs false
set_option linter.unusedVariables false
set_option linter.unusedSectionVars false
set_option maxRecDepth 100000
namespace Go.X.Diff
abbrev less (a b:List UInt8):Bool:=Op.bytesLess a b
theorem zQN:∀ a:List UInt8,less a a=false
 | []=>rfl
 | a::l=>by
  have h:=zQN l
  simp only[less,Op.bytesLess]at h ⊢
  rw[h];simp
theorem zSe:∀ {a b c:List UInt8},less a b=true->less b c=true->less a c=true
 | _,[],_,h,_=>by cases ‹List UInt8› <;> simp[less,Op.bytesLess]at h
 | _,_::_,[],_,h=>by simp[less,Op.bytesLess]at h
 | [],_::_,_::_,_,_=>rfl
 | a::x,b::y,c::z,h1,h2=>by
  simp only[less,Op.bytesLess,zB4,zAk,decide_eq_true_eq,beq_iff_eq]at h1 h2 ⊢
  rcases h1 with h1|⟨rfl,h1⟩
  ·rcases h2 with h2|⟨rfl,h2⟩
   ·exact .inl (UInt8.lt_trans h1 h2)
   ·exact .inl h1
  ·rcases h2 with h2|⟨rfl,h2⟩
   ·exact .inl h2
   ·exact .inr ⟨rfl,zSe h1 h2⟩
theorem zP0:∀ {a b:List UInt8},less a b=false->less b a=false->a=b
 | [],[],_,_=>rfl
 | [],_::_,h,_=>by simp[less,Op.bytesLess]at h
 | _::_,[],_,h=>by simp[less,Op.bytesLess]at h
 | a::x,b::y,h1,h2=>by
  simp only[less,Op.bytesLess,Bool.or_eq_false_iff,Bool.and_eq_false_iff,decide_eq_false_iff_not,beq_eq_false_iff_ne]at h1 h2
  have hab:a=b:=by
   rcases UInt8.lt_or_eq_of_le (UInt8.not_lt.1 h2.1) with h|h
   ·exact absurd h h1.1
   ·exact h
  subst hab
  have e1:=h1.2.resolve_left λh=>h rfl
  have e2:=h2.2.resolve_left λh=>h rfl
  rw[zP0 e1 e2]
theorem zAco {a b:List UInt8}(h:less a b=true):a≠b:=by
 rintro rfl;rw[zQN]at h;cases h
theorem zAaC {a b:List UInt8}(h:less a b=true):less b a=false:=by
 cases hb:less b a with
 | false=>rfl
 | true=>have:=zSe h hb;rw[zQN]at this;cases this
structure zAll where
 name:List UInt8
 fr:List UInt8
 to:List UInt8
def zAll.turn (s:zAll):zAll:=⟨s.name,s.to,s.fr⟩
section
variable {α:Type} [DecidableEq α] (nm sh:α->List UInt8)
def Ris (l:List α):Prop:=l.Pairwise λx y=>less (nm x) (nm y)=true
variable {nm sh}
theorem Ris.cons {x:α}{l:List α}(h:Ris nm (x::l)):(∀ y∈l,less (nm x) (nm y)=true)/\Ris nm l:=zCd.1 h
end
end Go.X.Diff
namespace Go.Proofs.YticdfkoncnnmmaaGreatDoor
open Go.X Go.X.Diff
structure zSZ {α:Type}(c:α->α->Int):Prop where
 three:∀ a b,c a b = -1\/c a b=0\/c a b=1
 turn:∀ a b,c b a = -(c a b)
 zero:∀ a b,c a b=0↔a=b
 trans:∀ {a b d},c a b<=0->c b d<=0->c a d<=0
namespace zSZ
variable {α β:Type} {c:α->α->Int} {e:β->β->Int}
theorem self (h:zSZ c)(a:α):c a a=0:=(h.zero a a).2 rfl
theorem both (h:zSZ c){a b:α}(h1:c a b<=0)(h2:c b a<=0):a=b:=by
 have:=h.turn a b;exact(h.zero a b).1 (by omega)
theorem chain (h:zSZ c){a b d:α}(h1:c a b<=0)(h2:c b d<=0):c a d=0↔(a=b/\b=d):=by
 constructor
 ·intro h0
  obtain rfl:=(h.zero a d).1 h0
  have:=h.both h1 h2
  exact⟨this,this.symm⟩
 ·rintro⟨rfl,rfl⟩;exact h.self _
theorem lt_le (h:zSZ c){a b d:α}(h1:c a b<0)(h2:c b d<=0):c a d<0:=by
 have h3:=h.trans (Int.le_of_lt h1) h2
 have h4:=(h.chain (Int.le_of_lt h1) h2)
 have:c a d≠0:=λh0=>by
  obtain⟨rfl,_⟩:=h4.1 h0
  rw[h.self]at h1;omega
 omega
def lex (c:α->α->Int)(e:β->β->Int)(a b:α×β):Int:=if c a.1 b.1≠0 then c a.1 b.1 else e a.2 b.2
theorem lex_ord (h:zSZ c)(k:zSZ e):zSZ (lex c e) where
 three a b:=by
  unfold lex;split
  ·exact h.three _ _
  ·exact k.three _ _
 turn a b:=by
  unfold lex
  have h1:=h.turn a.1 b.1
  have h2:=k.turn a.2 b.2
  split<;>split<;>omega
 zero a b:=by
  unfold lex
  have h1:=h.zero a.1 b.1
  have h2:=k.zero a.2 b.2
  split
  ·rename_i hn
   constructor
   ·intro h0;exact absurd h0 hn
   ·rintro rfl;exact absurd (h1.2 rfl) hn
  ·rename_i hn
   have:=h1.1 (Classical.not_not.1 hn)
   rw[h2]
   exact⟨λh=>Prod.ext this h,λh=>by rw[h]⟩
 trans {a b d} h1 h2:=by
  unfold lex at h1 h2 ⊢
  split at h1
  ·rename_i n1
   split at h2
   ·rename_i n2
    have:=h.lt_le (a:=a.1) (b:=b.1) (d:=d.1) (by omega) h2
    rw[if_pos (by omega)];omega
   ·rename_i n2
    have e1:=(h.zero _ _).1 (Classical.not_not.1 n2)
    rw[<- e1,if_pos n1];exact h1
  ·rename_i n1
   have e1:=(h.zero _ _).1 (Classical.not_not.1 n1)
   rw[e1]
   split at h2
   ·rename_i n2
    rw[if_pos n2];exact h2
   ·rename_i n2
    rw[if_neg n2];exact k.trans h1 h2
theorem pull {f:β->α}(h:zSZ c)(hf:∀ a b,f a=f b->a=b):zSZ λa b=>c (f a) (f b) where
 three a b:=h.three _ _
 turn a b:=h.turn _ _
 zero a b:=by rw[h.zero];exact⟨hf a b,λh=>by rw[h]⟩
 trans h1 h2:=h.trans h1 h2
end zSZ
def zAaD (a b:Int):Int:=if a<b then -1 else if b<a then 1 else 0
theorem zKY:zSZ zAaD where
 three a b:=by
  unfold zAaD
  split
  ·simp
  split<;>simp
 turn a b:=by unfold zAaD;split<;>split<;>first|omega|(split<;>omega)
 zero a b:=by
  unfold zAaD
  split
  ·omega
  split<;>omega
 trans {a b d} h1 h2:=by
  unfold zAaD at *
  split at h1<;>split at h2<;>split<;>first|omega|(split<;>split at h1<;>split at h2<;>omega)|(split<;>split at h1<;>omega)|(split<;>split at h2<;>omega)|(split<;>omega)
def zNo (a b:List UInt8):Int:=if less a b=true then -1 else if less b a=true then 1 else 0
theorem zF7:zSZ zNo where
 three a b:=by
  unfold zNo
  split
  ·simp
  split<;>simp
 turn a b:=by
  unfold zNo
  by_cases h1:less a b=true
  ·simp[h1,zAaC h1]
  ·rw[if_neg h1]
   by_cases h2:less b a=true
   ·simp[h1,h2]
   ·rw[if_neg h2,if_neg h2,if_neg h1];rfl
 zero a b:=by
  unfold zNo
  by_cases h1:less a b=true
  ·rw[if_pos h1];exact⟨λh=>by omega,λh=>absurd h (zAco h1)⟩
  ·rw[if_neg h1]
   by_cases h2:less b a=true
   ·rw[if_pos h2];exact⟨λh=>by omega,λh=>absurd h.symm (zAco h2)⟩
   ·rw[if_neg h2];exact⟨λ_=>zP0 (by simpa using h1) (by simpa using h2),λ_=>rfl⟩
 trans {a b d} h1 h2:=by
  unfold zNo at *
  by_cases a1:less a b=true
  ·by_cases a2:less b d=true
   ·rw[if_pos (zSe a1 a2)];omega
   ·rw[if_neg a2]at h2
    by_cases a3:less d b=true
    ·rw[if_pos a3]at h2;omega
    ·have:=zP0 (by simpa using a2) (by simpa using a3)
     rw[<- this,if_pos a1];omega
  ·rw[if_neg a1]at h1
   by_cases a3:less b a=true
   ·rw[if_pos a3]at h1;omega
   ·have:=zP0 (by simpa using a1) (by simpa using a3)
    rw[this];exact h2
def zU7:List Int->List Int->Int
 | [],[]=>0
 | [],_::_ => -1
 | _::_,[]=>1
 | a::x,b::y=>if zAaD a b≠0 then zAaD a b else zU7 x y
theorem zMO {a b:Int}{x y:List Int}:zU7 (a::x) (b::y)=if zAaD a b≠0 then zAaD a b else zU7 x y:=rfl
theorem zZp:zSZ zU7 where
 three:=by
  intro a
  induction a with
  | nil=>intro b;cases b<;>simp[zU7]
  | cons a x ih =>
   intro b
   cases b with
   | nil=>simp[zU7]
   | cons b y =>
    rw[zMO]
    split
    ·exact zKY.three _ _
    exact ih y
 turn:=by
  intro a
  induction a with
  | nil=>intro b;cases b<;>simp[zU7]
  | cons a x ih =>
   intro b
   cases b with
   | nil=>simp[zU7]
   | cons b y =>
    rw[zMO,zMO]
    have h1:=zKY.turn a b
    have h2:=ih y
    split<;>split<;>omega
 zero:=by
  intro a
  induction a with
  | nil=>intro b;cases b<;>simp[zU7]
  | cons a x ih =>
   intro b
   cases b with
   | nil=>simp[zU7]
   | cons b y =>
    rw[zMO]
    have h1:=zKY.zero a b
    split
    ·rename_i hn
     constructor
     ·intro h0;exact absurd h0 hn
     ·intro h;injection h with e1 e2;exact absurd (h1.2 e1) hn
    ·rename_i hn
     have:=h1.1 (Classical.not_not.1 hn)
     rw[ih y,this];simp
 trans:=by
  intro a
  induction a with
  | nil=>intro b d h1 h2;cases b<;>cases d<;>simp[zU7]at *
  | cons a x ih =>
   intro b d h1 h2
   cases b with
   | nil=>simp[zU7]at h1
   | cons b y =>
    cases d with
    | nil=>simp[zU7]at h2
    | cons d z =>
     rw[zMO]at *
     split at h1
     ·rename_i n1
      split at h2
      ·rename_i n2
       have:=zKY.lt_le (a:=a) (b:=b) (d:=d) (by omega) h2
       rw[if_pos (by omega)];omega
      ·rename_i n2
       have e1:=(zKY.zero b d).1 (Classical.not_not.1 n2)
       rw[<- e1,if_pos n1];exact h1
     ·rename_i n1
      have e1:=(zKY.zero a b).1 (Classical.not_not.1 n1)
      rw[e1]
      split at h2
      ·rename_i n2
       rw[if_pos n2];exact h2
      ·rename_i n2
       rw[if_neg n2];exact ih h1 h2
def zAjE (a b:List UInt8):Int:=if decide (a=[]) != decide (b=[]) then zNo b a else zNo a b
def zAkX (a:List UInt8):Int:=if a=[] then 1 else 0
theorem zZq {a:List UInt8}(h:a≠[]):zNo [] a = -1/\zNo a []=1:=by
 cases a with
 | nil=>exact absurd rfl h
 | cons x l=>exact⟨rfl,rfl⟩
theorem zAeQ:zAjE=λa b=>zSZ.lex zAaD zNo (zAkX a,a) (zAkX b,b):=by
 funext a b
 unfold zAjE zSZ.lex zAkX
 by_cases ha:a=[]
 ·by_cases hb:b=[]
  ·subst ha hb;rfl
  ·subst ha
   simp only[decide_true,if_true,decide_eq_false hb,if_neg hb]
   rw[(zZq hb).2];rfl
 ·by_cases hb:b=[]
  ·subst hb
   simp only[decide_true,if_true,decide_eq_false ha,if_neg ha]
   rw[(zZq ha).1];rfl
  ·simp only[decide_eq_false ha,if_neg ha,decide_eq_false hb,if_neg hb];rfl
theorem zAeR:zSZ zAjE:=by
 rw[zAeQ]
 exact(zSZ.lex_ord zKY zF7).pull (f:=λa=>(zAkX a,a)) λa b h=>congrArg Prod.snd h
def zAd6 (v w:Ver):Int:=if zU7 v.p w.p≠0 then zU7 v.p w.p else zAjE v.pre w.pre
theorem zP1:zSZ zAd6 :=
 (zSZ.lex_ord zZp zAeR).pull (f:=λv:Ver=>(v.p,v.pre)) λa b h=>by
  cases a;cases b;simp only[Prod.mk.injEq]at h;simp[h.1,h.2]
def ltV (v w:Ver):Bool:=decide (zAd6 v w<0)
end Go.Proofs.YticdfkoncnnmmaaGreatDoor
namespace Go.Proofs.YticdfkoncnnmmaaGreatDoor
open Go.X Go.X.Diff
def zVO (c:UInt8)(l:List UInt8):List UInt8:=l.takeWhile (· != c)
def zXQ (c:UInt8)(l:List UInt8):List UInt8:=(l.dropWhile (· != c)).drop 1
def zDW (c:UInt8):List UInt8->List (List UInt8)
 | []=>[[]]
 | x::l=>if x=c then []::zDW c l else match zDW c l with
  | []=>[[x]]
  | h::t=>(x::h)::t
theorem zQO {c:UInt8}:∀ {l:List UInt8},c∉l->zDW c l=[l]
 | [],_=>rfl
 | x::l,h=>by
  simp only[zAr,not_or]at h
  rw[zDW,if_neg (λe=>h.1 e.symm),zQO h.2]
theorem zOz {c:UInt8}{b:List UInt8}:∀ {a:List UInt8},c∉a->zDW c (a++c::b)=a::zDW c b
 | [],_=>by rw[zA0,zDW,if_pos rfl]
 | x::l,h=>by
  simp only[zAr,not_or]at h
  rw[zCs,zDW,if_neg (λe=>h.1 e.symm),zOz h.2]
theorem zZr {c:UInt8}{l:List UInt8}(h:c∉l):zVO c l=l/\zXQ c l=[]:=by
 have hp:∀ x∈l,(x != c)=true:=λx hx=>by simp only[bne_iff_ne];rintro rfl;exact h hx
 unfold zVO zXQ
 have h1:=List.takeWhile_append_of_pos (l₂:=[]) hp
 have h2:=List.dropWhile_append_of_pos (l₂:=[]) hp
 simp only[zAN,List.takeWhile_nil,List.dropWhile_nil]at h1 h2
 rw[h1,h2];exact⟨rfl,rfl⟩
theorem zZs {c:UInt8}{a b:List UInt8}(h:c∉a):zVO c (a++c::b)=a/\zXQ c (a++c::b)=b:=by
 have hp:∀ x∈a,(x != c)=true:=λx hx=>by simp only[bne_iff_ne];rintro rfl;exact h hx
 unfold zVO zXQ
 rw[List.takeWhile_append_of_pos hp,List.dropWhile_append_of_pos hp];simp
theorem zU8 {l:List UInt8}{c:UInt8}(h:Lib.indexByte l c = -1):c∉l:=λhm=>by
 obtain⟨k,hk⟩:=List.getElem?_of_mem hm
 exact Lib.indexByte_none h k hk
theorem zU9 {l:List UInt8}{c:UInt8}{o:Nat}(h:Lib.indexByte l c=o):o<l.length/\c∉l.take o/\l=l.take o++c::l.drop (o+1):=by
 obtain⟨h1,h2⟩:=Lib.indexByte_some h
 obtain⟨hlt,he⟩:=zAP.1 h1
 refine⟨hlt,λhm=>?_,?_⟩
 ·obtain⟨k,hk⟩:=List.getElem?_of_mem hm
  rw[zCl]at hk
  split at hk
  ·rename_i hlt;exact h2 k hlt hk
  ·cases hk
 ·conv=>lhs;rw[<- zBu o l]
  rw[zBF hlt,he]
theorem zTW (l:List UInt8)(c:UInt8):Lib.indexByte l c = -1\/∃ o:Nat,Lib.indexByte l c=o:=by
 have:=Lib.indexByte_ge l c
 by_cases h:Lib.indexByte l c = -1
 ·exact .inl h
 ·exact .inr ⟨(Lib.indexByte l c).toNat,by omega⟩
theorem zQP (n:Nat):∀ x∈zHc n,48<=x.toNat/\x.toNat<=57:=by
 induction n using Nat.strongRecOn with
 | ind n ih =>
  intro x hx
  have hd:∀ m,m<10->(zDu m).toNat=48+m:=λm hm=>by unfold zDu;rw[UInt8.toNat_ofNat'];omega
  rw[zHc]at hx
  split at hx
  ·obtain rfl:x=zDu n:=by simpa using hx
   rw[hd _ (by omega)];omega
  ·rcases zAt.1 hx with hx|hx
   ·exact ih _ (by omega) x hx
   ·obtain rfl:x=zDu (n % 10):=by simpa using hx
    rw[hd _ (by omega)];omega
theorem zAhJ (n:Nat):zHc n≠[]:=by rw[zHc];split<;>simp
def zAbm (l:List UInt8):Nat:=l.foldl (λn c=>n*10+(c.toNat-48)) 0
theorem zWY {l:List UInt8}{c:UInt8}:zAbm (l++[c])=zAbm l*10+(c.toNat-48):=by simp[zAbm]
theorem zVP (n:Nat):zAbm (zHc n)=n:=by
 induction n using Nat.strongRecOn with
 | ind n ih =>
  have hd:∀ m,m<10->(zDu m).toNat=48+m:=λm hm=>by unfold zDu;rw[UInt8.toNat_ofNat'];omega
  rw[zHc]
  split
  ·show 0*10+((zDu n).toNat-48)=n
   rw[hd _ (by omega)];omega
  ·rw[zWY,ih _ (by omega),hd _ (by omega)];omega
def zVQ (l:List UInt8)(n:Int):Prop:=∀ m:Nat,m<=999999->l=zHc m->n=m
structure zAmk (s:List UInt8)(v:Ver):Prop where
 p3:v.p.length=3
 pre:v.pre=zXQ 45 s
 parts:∀ (i:Nat) (l:List UInt8),(zDW 46 (zVO 45 s))[i]? = some l->∃ n,v.p[i]? = some n/\zVQ l n
theorem zOa {v:Ver}(hp:v.p.length=3)(hok:zGl v=true):zDW 46 (zVO 45 (zEf v))=v.p.map (λn=>zHc n.toNat)/\zXQ 45 (zEf v)=v.pre:=by
 obtain⟨p,pre⟩:=v
 have hnot:∀ (n:Nat) (c:UInt8),c.toNat<48->c∉zHc n:=λn c hc hm=>by have:=zQP n c hm;omega
 match p,hp with
 | [a,b,c],_ =>
  unfold zEf
  rw[if_pos hok]
  simp only[zLE,zAW,zCm,zA7,zCj,zAN]
  have h45:(45:UInt8)∉zHc a.toNat++([46]++zHc b.toNat++([46]++zHc c.toNat)):=by
   simp only[zAt,zAF,not_or]
   exact⟨hnot _ _ (by decide),⟨by decide,hnot _ _ (by decide)⟩,by decide,hnot _ _ (by decide)⟩
  have hs:zDW 46 (zHc a.toNat++([46]++zHc b.toNat++([46]++zHc c.toNat)))=[zHc a.toNat,zHc b.toNat,zHc c.toNat]:=by
   rw[show zHc a.toNat++([46]++zHc b.toNat++([46]++zHc c.toNat))=zHc a.toNat++46::(zHc b.toNat++46::zHc c.toNat) by simp]
   rw[zOz (hnot _ _ (by decide)),zOz (hnot _ _ (by decide)),zQO (hnot _ _ (by decide))]
  split
  ·rename_i he
   rw[zAN]
   obtain⟨e1,e2⟩:=zZr h45
   rw[e1,e2];exact⟨hs,he.symm⟩
  ·obtain⟨e1,e2⟩:=zZs (b:=pre) h45
   rw[e1,e2];exact⟨hs,rfl⟩
theorem zZt {v:Ver}(hp:v.p.length=3)(hok:zGl v=true):zEf v≠[]:=by
 intro h
 have:=(zOa hp hok).1
 rw[h]at this
 have:=congrArg List.length this
 simp[zVO,zDW,hp]at this
theorem zZu {v w:Ver}{s:List UInt8}(hw:w.p.length=3)(hok:zGl w=true)(hs:zEf w=s)(h:zAmk s v):v=w:=by
 obtain⟨e1,e2⟩:=zOa hw hok
 rw[hs]at e1 e2
 obtain⟨h1,h2,h3⟩:=h
 rw[e2]at h2
 rw[e1]at h3
 obtain⟨p,pre⟩:=v
 obtain⟨q,qre⟩:=w
 simp only at *
 match p,q,h1,hw with
 | [x,y,z],[a,b,c],_,_ =>
  have hall:[a,b,c].all zNn=true:=by unfold zGl at hok;simp only[zAk]at hok;exact hok.1
  have ha:=zJj (zAy.1 hall a (by simp))
  have hb:=zJj (zAy.1 hall b (by simp))
  have hc:=zJj (zAy.1 hall c (by simp))
  obtain⟨n0,k0,r0⟩:=h3 0 _ rfl
  obtain⟨n1,k1,r1⟩:=h3 1 _ rfl
  obtain⟨n2,k2,r2⟩:=h3 2 _ rfl
  have r0:=r0 a.toNat (by omega) rfl
  have r1:=r1 b.toNat (by omega) rfl
  have r2:=r2 c.toNat (by omega) rfl
  simp at k0 k1 k2
  subst k0 k1 k2 h2
  congr 1
  congr 1
  ·omega
  ·congr 1
   ·omega
   ·congr 1;omega
theorem zAeS {v w:Ver}(hv:v.p.length=3)(hw:w.p.length=3)(ho:zGl v=true)(ho2:zGl w=true)(h:zEf v=zEf w):v=w:=by
 refine zZu (s:=zEf w) hw ho2 rfl ⟨hv,?_,?_⟩
 ·rw[<- h];exact(zOa hv ho).2.symm
 ·intro i l hl
  rw[<- h,(zOa hv ho).1,zAp]at hl
  obtain⟨n,hn,rfl⟩:=zBy.1 hl
  refine⟨n,hn,λm _ he=>?_⟩
  have:=congrArg zAbm he
  rw[zVP,zVP]at this
  have hall:v.p.all zNn=true:=by unfold zGl at ho;simp only[zAk]at ho;exact ho.1
  have:=zJj (zAy.1 hall n (zAB hn))
  omega
theorem zUE {v:Ver}(hp:v.p.length=3)(hok:zGl v=true):(zDW 46 (zVO 45 (zEf v))).length=3:=by
 rw[(zOa hp hok).1,zAf,hp]
theorem zHV {v:Ver}(hp:v.p.length=3):(zEf v).length<=40:=by
 unfold zEf
 split
 ·rename_i hok
  obtain⟨p,pre⟩:=v
  match p,hp with
  | [a,b,c],_ =>
   have hall:[a,b,c].all zNn=true:=by unfold zGl at hok;simp only[zAk]at hok;exact hok.1
   have hpre:pre.length<=16:=by unfold zGl zAcl at hok;simp only[zAk,decide_eq_true_eq]at hok;exact hok.2.1
   have ha:=zJj (zAy.1 hall a (by simp))
   have hb:=zJj (zAy.1 hall b (by simp))
   have hc:=zJj (zAy.1 hall c (by simp))
   have l1:=zOx (n:=a.toNat) (by omega)
   have l2:=zOx (n:=b.toNat) (by omega)
   have l3:=zOx (n:=c.toNat) (by omega)
   simp only[zLE,zAW,zCm,zA7,zCj,zAN]
   split<;>simp<;>omega
 ·simp
theorem zBq {v:Value}{l:List (Option Value×Value)}{p:Prop}:Mre ((some v,v)::l) p↔Mre l p:=by simp
theorem zEH {a b:Value}:zFg 0 (.tuple #[a,b])=some a:=rfl
theorem zEI {a b:Value}:zFg 1 (.tuple #[a,b])=some b:=rfl
theorem zEE {a b c:Value}:zFg 0 (.tuple #[a,b,c])=some a:=rfl
theorem zEF {a b c:Value}:zFg 1 (.tuple #[a,b,c])=some b:=rfl
theorem zEG {a b c:Value}:zFg 2 (.tuple #[a,b,c])=some c:=rfl
def At (h:zAw)(q:Nat)(cs:List Value):Prop:=∃ T,h[q]? = some (.cells cs.toArray T (0,0))
section
variable {h h' H:zAw} {q:Nat} {cs:List Value}
theorem At.push {T:TypeId}:At (h.push (.cells cs.toArray T (0,0))) h.size cs:=⟨T,zCa⟩
theorem At.keep {S:zA2}(a:At h q cs)(k:Keep S h h')(hs:¬ S q):At h' q cs:=by obtain⟨T,a⟩:=a;exact⟨T,k.at a hs⟩
theorem At.lt (a:At h q cs):q<h.size:=by obtain⟨T,a⟩:=a;exact lt_of a
theorem At.pt (a:At h q cs):Pt h q 0 cs:=by obtain⟨T,a⟩:=a;exact Pt.of a
theorem At.ldN (a:At h q cs){n:Nat}(hn:cs.length=n):ldN n h (Ptr q 0)=some (.agg cs.toArray):=a.pt.agg hn
theorem At.ld (a:At h q cs){i:Nat}{v:Value}(hi:cs[i]? = some v):ld1 h (Ptr q i)=some v:=by obtain⟨T,a⟩:=a;exact zRO a hi
theorem At.st (a:At h q cs){n:Nat}{ds:List Value}(hn:cs.length=n)(hd:ds.length=n)(h1:∀ c∈ds,c.oneCell'=true) :
  ∃ h',stN n h (Ptr q 0) (.agg ds.toArray)=some h'/\At h' q ds/\Keep (· = q) h h':=by
 obtain⟨T,a⟩:=a
 have:=zPp (n:=n) (o:=0) (A:=[]) (B:=cs) (C:=[]) (B':=ds) (by rw[zA0,zAN];exact a) rfl (by simp[hn]) hd (zU6 h1)
 rw[zA0,zAN]at this
 exact⟨_,this,⟨T,zBm a⟩,Keep.set rfl⟩
theorem At.st1 (a:At h q cs){i:Nat}{v:Value}(hi:i<cs.length)(hv:v.oneCell'=true):∃ h',st1 h (Ptr q i) v=some h'/\At h' q (cs.set i v)/\Keep (· = q) h h':=by
 obtain⟨T,a⟩:=a
 exact⟨_,zXP a hi hv,⟨T,zBm a⟩,Keep.set rfl⟩
theorem _root_.Go.X.Keep.fresh {S:zA2}(k:Keep zAM H h)(k2:Keep S h h')(hs:∀ b,S b->H.size<=b):Keep zAM H h' :=
 ⟨zBj k.1 k2.1,λi hi _=>by rw[k2.2 i (zAS hi k.1) (λh=>by have:=hs i h;omega),k.2 i hi id]⟩
end
theorem Ver.cases3 {v:Ver}(h:v.wf):∃ a b c,v.p=[a,b,c]:=by
 obtain⟨p,pre⟩:=v
 have:=h.p3
 match p,this with
 | [a,b,c],_=>exact⟨a,b,c,rfl⟩
section
variable {h:zAw} {q:Nat} {v:Ver}
theorem zPH (a:At h q (zED v))(hv:v.wf):ldN 4 h (Ptr q 0)=some (.agg (zED v).toArray):=a.ldN (zDL hv)
theorem zAcp (a:At h q (zED v))(hv:v.wf):ld1 h (Ptr q 3)=some (str v.pre):=a.ld (by
 unfold zED
 rw[zBb (by simp[hv.p3])]
 simp[hv.p3])
theorem zRu (a:At h q (zED v)){i:Nat}{x:Int}(hi:v.p[i]? = some x):ld1 h (Ptr q i)=some (.int .i64 x):=a.ld (by
 unfold zED
 have hlt:=(zAP.1 hi).1
 rw[List.getElem?_append_left (by simpa using hlt)]
 exact zH4 hi)
end
theorem zAmQ:zBE prg zAU=some (zED ⟨[0,0,0],[]⟩).toArray:=by kernel_rfl
def zEQ:Ver:=⟨[0,0,0],[]⟩
theorem zGZ:zEQ.wf:=⟨rfl,by simp[zEQ]⟩
theorem zAlm:zCV prg zAU []=some (.agg (zED zEQ).toArray):=by kernel_rfl
theorem zAcq:∀ {i:Nat} {p p2:List Int} {a b:Int},p.take i=p2.take i->p[i]? = some a->p2[i]? = some b->a≠b->zU7 p p2=zAaD a b
 | 0,x::p,y::p2,a,b,_,h1,h2,hne=>by
  simp at h1 h2
  subst h1 h2
  rw[zMO,if_pos]
  rw[ne_eq,zKY.zero];exact hne
 | i+1,x::p,y::p2,a,b,ht,h1,h2,hne=>by
  simp only[zBT,List.cons.injEq]at ht
  obtain⟨rfl,ht⟩:=ht
  rw[zMO,if_neg (by rw[Classical.not_not];exact zKY.self x)]
  exact zAcq ht (by simpa using h1) (by simpa using h2) hne
 | i,[],_,a,b,_,h1,_,_=>by simp at h1
 | i,_::_,[],a,b,_,_,h2,_=>by simp at h2
theorem zZv {p p2:List Int}{i:Nat}{a:Int}(ht:p.take i=p2.take i)(h1:p[i]? = some a)(h2:p2[i]? = some a):p.take (i+1)=p2.take (i+1):=by
 rw[zAI,zAI,ht,h1,h2]
theorem zZw:∀ {a b:List UInt8},Lib.compareBytes a b=zNo a b
 | [],[]=>rfl
 | [],_::_=>rfl
 | _::_,[]=>rfl
 | a::x,b::y=>by
  rw[Lib.compareBytes,zZw (a:=x) (b:=y)]
  unfold zNo
  have e1:less (a::x) (b::y)=(decide (a<b) || (a == b&&less x y)):=rfl
  have e2:less (b::y) (a::x)=(decide (b<a) || (b == a&&less y x)):=rfl
  rw[e1,e2]
  by_cases h1:a<b
  ·simp[h1]
  ·by_cases h2:b<a
   ·have hne:a≠b:=λe=>by subst e;exact h1 h2
    simp[h1,h2,hne]
   ·have:a=b:=UInt8.le_antisymm (UInt8.not_lt.1 h2) (UInt8.not_lt.1 h1)
    subst this;simp[h1]
theorem zAeT {H:zAw}{a b:Int}:zAz prg zKu [.int .i64 a,.int .i64 b] H λu H'=>u = .int .i64 (zAaD a b)/\H=H':=by
 have nan:∀ x:Int,zAz prg zJF [.int .i64 x] H λu H'=>u = .bool false/\H=H':=λx=>by
  apply zO2
  unfold zOM
  simp only[zAH,zC3,zAa,bne_self_eq_false]
  exact⟨by trivial,by trivial⟩
 apply zN0
 unfold zNh
 refine zAJ (nan a) ?_
 rintro _ _ ⟨rfl,rfl⟩
 refine zAJ (nan b) ?_
 rintro _ _ ⟨rfl,rfl⟩
 simp only[zA8,zAe,zAd,zAO,zAT,zAv,zAl,zAa,if_true,if_false,zAb,zAc,decide_true,decide_false,reduceCtorEq,zBQ,zEH,zEI,zEE,zEF,zEG,zBq,zA9,zAH,zC3,decide_eq_true_eq]
 unfold zAaD
 by_cases h1:a<b
 ·simp[h1]
 ·by_cases h2:a > b
  ·have h2':b<a:=h2
   simp[h1,h2']
  ·have h2':¬ b<a:=h2
   simp[h1,h2']
theorem zYl {H:zAw}{q r:Nat}{v w:Ver}(hv:v.wf)(hw:w.wf)(a:At H q (zED v))(b:At H r (zED w)) :
  zAz prg zFP [.slice (some ⟨q,0,none⟩) 3 3,.slice (some ⟨r,0,none⟩) 3 3] H λu H'=>u = .int .i64 (zU7 v.p w.p)/\H=H':=by
 apply zJO
 unfold zHR
 have hp3:=hv.p3
 have hq3:=hw.p3
 refine zNW (λu h=>v.p=w.p/\H=h) (λk3 hk3=>?_) ?_
 ·rw[zKB,zAa]
  refine zKa (λu h=>∃ i:Nat,i<=3/\u = .int .i64 (i:Nat)/\v.p.take i=w.p.take i/\H=h) (λu _=>match u with | .int _ t=>3-t.toNat|_=>0) ⟨0,by omega,rfl,rfl,rfl⟩ ?_
  rintro _ _ ⟨i,hi,rfl,ht,rfl⟩ k hk
  have e3:((3:Nat):Int)=3:=rfl
  simp only[zAH,zC3,zAa,zAl,decide_eq_true_eq,e3]
  by_cases hlt:(i:Int)<3
  ·rw[if_pos hlt]
   have h1:v.p[i]? = some (v.p[i]'(by omega)):=zAj _
   have h2:w.p[i]? = some (w.p[i]'(by omega)):=zAj _
   generalize (v.p[i]'(by omega))=x at h1
   generalize (w.p[i]'(by omega))=y at h2
   have hinc:IntKind.i64.wrap ((i:Int)+1)=(i+1:Nat):=by rw[zB9]<;>omega
   have i1:ixS 1 (.slice (some ⟨q,0,none⟩) 3 3) (.int .i64 (i:Nat))=some (Ptr q i):=by
    simp only[ixS];rw[if_pos ⟨by omega,by omega⟩];simp
   have i2:ixS 1 (.slice (some ⟨r,0,none⟩) 3 3) (.int .i64 (i:Nat))=some (Ptr r i):=by
    simp only[ixS];rw[if_pos ⟨by omega,by omega⟩];simp
   have hge:¬ ((i:Int)>=3):=by omega
   simp only[i1,i2,zAa,zKB,e3,zRu a h1,zRu b h2,zAH,zC3,zAl,hinc,hge,zA8,zAe,zAd,zAO,zAT,zAv,zAl,zAa,if_true,if_false,zAb,zAc,decide_true,decide_false,reduceCtorEq,zBQ,zEH,zEI,zEE,zEF,zEG,zBq,zA9]
   refine zAJ zAeT ?_
   rintro _ _ ⟨rfl,rfl⟩
   simp only[zAH,zC3,zAa,zAl,bne_iff_ne,ne_eq,zKY.zero]
   by_cases hxy:x=y
   ·subst hxy
    rw[if_neg (by simp)]
    exact hk _ _ ⟨i+1,by omega,rfl,zZv ht h1 h2,rfl⟩ (by show 3-(i+1)<3-i;omega)
   ·rw[if_pos hxy,zAcq ht h1 h2 hxy]
    exact⟨by trivial,by trivial⟩
  ·rw[if_neg hlt]
   rw[zAs (by omega),zAs (by omega)]at ht
   exact hk3 _ _ ⟨ht,rfl⟩
 rintro _ _ ⟨hp,rfl⟩
 rw[zKB,zAa,zKB,zAa]
 have e3:((3:Nat):Int)=3:=rfl
 have e4:¬ ((3:Int)<3):=by omega
 simp only[zAH,zC3,zAa,zAl,e3,e4,zA8,zAe,zAd,zAO,zAT,zAv,zAl,zAa,if_true,if_false,zAb,zAc,decide_true,decide_false,reduceCtorEq,zBQ,zEH,zEI,zEE,zEF,zEG,zBq,zA9]
 exact⟨by rw[(zZp.zero _ _).2 hp],by trivial⟩
theorem zWZ {args:Array Value}:xtV prg zEo args=Extern.BytealgCompare.compare args:=by kernel_rfl
theorem zSN {H:zAw}{a b:List UInt8}:zAz prg zGt [str a,str b] H λu H'=>u = .int .i64 (zNo a b)/\H=H':=by
 apply zNZ
 unfold zNg
 refine zAJ (R:=λu H'=>u = .int .i64 (zNo a b)/\H=H') ?_ λu h hR=>hR
 apply zHS
 unfold zF4
 intro w hw
 refine⟨_,w,by rw[zWZ];exact Lib.run_compareString _ _ w,zJs.rfl' w,?_,hw.symm⟩
 rw[<- zZw]
theorem zAjF {H:zAw}{v w:Ver}(hv:v.wf)(hw:w.wf):zAz prg zFW [.agg (zED v).toArray,.agg (zED w).toArray] H λu H'=>u = .int .i64 (zAd6 v w)/\Keep zAM H H':=by
 apply zL4
 unfold zKb
 simp only[zB1,zBa]
 generalize hH1:H.push (.cells (zED v).toArray zAU (0,0))=H1
 have k1:Keep zAM H H1:=by rw[<- hH1];exact Keep.push
 have a1:At H1 H.size (zED v):=by rw[<- hH1];exact At.push
 generalize hH2:H1.push (.cells (zED w).toArray zAU (0,0))=H2
 have k2:Keep zAM H1 H2:=by rw[<- hH2];exact Keep.push
 have b1:At H2 H1.size (zED w):=by rw[<- hH2];exact At.push
 have a2:=a1.keep k2 id
 have kk:=k1.trans k2
 have sl:∀ q:Nat,slA 3 1 (Ptr q 0) none none none=some (.slice (some ⟨q,0,none⟩) 3 3):=λq=>by simp[slA,zM9,bnd]
 have e1:zS3 .eql ⟨v.pre.toArray⟩ ⟨#[]⟩=some (.bool (decide (v.pre=[]))):=zQH (b:=[])
 have e2:zS3 .eql ⟨w.pre.toArray⟩ ⟨#[]⟩=some (.bool (decide (w.pre=[]))):=zQH (b:=[])
 simp only[zBf,zAa,zAg,sl]
 refine zAJ (zYl hv hw a2 b1) ?_
 rintro _ _ ⟨rfl,rfl⟩
 have bb:∀ x y:Bool,zAC .bool .neq (.bool x) (.bool y)=some (.bool (x != y)):=λx y=>by cases x<;>cases y<;>rfl
 unfold zAd6
 have hne:((zU7 v.p w.p != 0)=true)=(zU7 v.p w.p≠0):=by simp
 simp only[zAH,zC3,zAa,zAl,hne]
 by_cases hz:zU7 v.p w.p≠0
 ·rw[if_pos hz,if_pos hz]
  exact⟨by trivial,kk⟩
 ·rw[if_neg hz,if_neg hz]
  unfold zAjE
  cases hx:decide (v.pre=[])<;>cases hy:decide (w.pre=[])<;>simp only[zA8,zAe,zAd,zAO,zAT,zAv,zAl,zAa,if_true,if_false,zAb,zAc,decide_true,decide_false,reduceCtorEq,zBQ,zEH,zEI,zEE,zEF,zEG,zBq,zA9,zBf,zAg,zAcp a2 hv,zAcp b1 hw,zGn,e1,e2,hx,hy,bb,bne_self_eq_false,Bool.bne_true,Bool.bne_false]<;>exact zSN.mono λu h ⟨e,hh⟩=>⟨e,hh ▸ kk⟩
theorem zTX {a b:List UInt8}{q:EqK}(h:a.length+b.length<=9223372036854775807):zAC q .add (str a) (str b)=some (str (a++b)):=by rw[zGn];exact zS9 h
theorem zDG {a b:List UInt8}{q:EqK}:zAC q .eql (str a) (str b)=some (.bool (decide (a=b))):=by rw[zGn];exact zQH
theorem zTY {a b:List UInt8}{q:EqK}:zAC q .neq (str a) (str b)=some (.bool (!decide (a=b))):=by rw[zGn];exact zX9
theorem ix0 {q:Nat}:ixA 3 1 (Ptr q 0) (.int .i64 0)=some (Ptr q 0):=zR3 (i:=0) (by omega)
def zAeU:List (List UInt8):=[[61],[33,61],[60],[60,61],[62],[62,61],[94]]
def vp0 (v:Ver):Int:=v.p.getD 0 0
def vp1 (v:Ver):Int:=v.p.getD 1 0
def zYm (op:List UInt8)(w v:Ver):Bool :=
 bif decide (op=[61]) then !ltV v w && !ltV w v else
 bif decide (op=[33,61]) then ltV v w || ltV w v else
 bif decide (op=[60]) then ltV v w else
 bif decide (op=[60,61]) then !ltV w v else
 bif decide (op=[62]) then ltV w v else
 bif decide (op=[62,61]) then !ltV v w else
 bif decide (op=[94]) then !ltV v w&&(vp0 v == vp0 w)&&(vp0 w != 0 || vp1 v == vp1 w) else true
theorem _root_.Go.X.L0_i {body:(zAw->Prop)->zAw->Prop}{H:zAw}(I:zAw->Prop)(μ:zAw->Nat)(h0:I H)
  (hs:∀ h,I h->∀ k:zAw->Prop,(∀ h',I h'->μ h'<μ h->k h')->body k h):L0 body H:=by
 refine⟨λvs h=>vs=[]/\I h,λ_ h=>μ h,⟨rfl,h0⟩,?_⟩
 rintro vs h _ ⟨rfl,hI⟩
 exact hs h hI _ λh' hI' hm=>⟨⟨rfl,hI'⟩,hm⟩
theorem zBV {n:Nat}(h:n<=1099511627776):zAC .no .add (.int .i64 (n:Nat)) (.int .i64 1)=some (.int .i64 ((n+1:Nat):Int)):=by
 rw[zAH];simp only[zC3];rw[zB9 (by omega) (by omega)];rfl
theorem zAeV {n:Nat}:zAC .no .lss (.int .i64 (n:Nat)) (.int .i64 0)=some (.bool false):=by
 rw[zAH];simp only[zC3];rw[decide_eq_false (by omega)]
theorem zAhK:zAC .no .lss (.int .i64 (-1)) (.int .i64 0)=some (.bool true):=rfl
theorem zAeW {n:Nat}:zAC .no .geq (.int .i64 (n:Nat)) (.int .i64 0)=some (.bool true):=by
 rw[zAH];simp only[zC3];rw[decide_eq_true (by omega)]
theorem zW0 {H:zAw}{l:List UInt8}{x:UInt8}:zAz prg zDg [str l,.int .u8 x.toNat] H λu H'=>u = .int .i64 (Lib.indexByte l x)/\H=H':=by
 apply zEV
 unfold zEt
 intro w hw
 refine⟨_,w,by rw[zNm];exact Lib.run_indexByteString _ _ w,zJs.rfl' w,?_,hw.symm⟩
 simp
theorem zZx {H:zAw}{l:List UInt8}{c:UInt8}:zAz prg zEa [str l,str [c]] H λu H'=>u = .int .i64 (Lib.indexByte l c)/\H=H':=by
 apply zI3
 unfold zG7
 have e1:zLS (str [c])=some (.int .i64 1):=rfl
 have e2:zAC .no .eql (.int .i64 1) (.int .i64 0)=some (.bool false):=rfl
 have e3:zAC .no .eql (.int .i64 1) (.int .i64 1)=some (.bool true):=rfl
 have e4:ixT (str [c]) (.int .i64 0)=some (.int .u8 c.toNat):=zLu (i:=0) rfl
 have e5:=λq=>zDG (q:=q) (a:=[c]) (b:=l)
 cases hx:decide ([c]=l)<;>simp only[e1,e2,e3,e4,e5,hx,zA8,zAe,zAd,zAO,zAT,zAv,zAl,zAa,if_true,if_false,zAb,zAc,decide_true,decide_false,reduceCtorEq,zBQ,zEH,zEI,zEE,zEF,zEG,zBq,zA9]
 ·exact zAJ zW0 λu h hR=>hR
 ·have:l=[c]:=(of_decide_eq_true hx).symm
  subst this
  refine⟨?_,by trivial⟩
  simp[Lib.indexByte]
theorem zAeX {H:zAw}{l:List UInt8}{c:UInt8}:zAz prg zMq [str l,str [c]] H λu H'=>u = .int .i64 (Lib.indexByte l c)/\H=H':=by
 apply zO3
 unfold zON
 exact zAJ zZx λu h hR=>hR
theorem zAhL {l:List UInt8}{o:Nat}(h:o<=l.length):slT (str l) none (some (.int .i64 (o:Nat)))=some (str (l.take o)):=by
 have:=zR4 (l:=l) (lo:=0) (hi:=o) (a:=none) (b:=some (.int .i64 (o:Nat))) (zAA _) h rfl (by simp[bnd,h])
 rwa [zBY]at this
theorem zVR {l:List UInt8}{o:Nat}(h:o<=l.length):slT (str l) (some (.int .i64 (o:Nat))) none=some (str (l.drop o)):=by
 have:=zR4 (l:=l) (lo:=o) (hi:=l.length) (a:=some (.int .i64 (o:Nat))) (b:=none) h (zAh _) (by simp[bnd,h]) rfl
 rwa [zBN]at this
theorem zAjG {H:zAw}{l:List UInt8}{c:UInt8}(hl:l.length<=1099511627776):zAz prg zFQ [str l,str [c]] H λu H'=>(∃ b:Bool,u = .tuple #[str (zVO c l),str (zXQ c l),.bool b])/\H=H':=by
 apply zJP
 unfold zHT
 refine zAJ zZx ?_
 rintro _ _ ⟨rfl,rfl⟩
 rcases zTW l c with he|⟨o,he⟩
 ·rw[he]
  have e1:zAC .no .geq (.int .i64 (-1)) (.int .i64 0)=some (.bool false):=rfl
  obtain⟨h1,h2⟩:=zZr (zU8 he)
  simp only[e1,zA8,zAe,zAd,zAO,zAT,zAv,zAl,zAa,if_true,if_false,zAb,zAc,decide_true,decide_false,reduceCtorEq,zBQ,zEH,zEI,zEE,zEF,zEG,zBq,zA9]
  exact⟨⟨false,by rw[h1,h2]⟩,by trivial⟩
 ·rw[he]
  obtain⟨hlt,hni,hsp⟩:=zU9 he
  have e2:zLS (str [c])=some (.int .i64 1):=rfl
  have e4:=zBV (n:=o) (by omega)
  have e5:=zAeW (n:=o)
  simp only[e5,e2,e4,zAhL (Nat.le_of_lt hlt),zVR (show o+1<=l.length by omega),zA8,zAe,zAd,zAO,zAT,zAv,zAl,zAa,if_true,if_false,zAb,zAc,decide_true,decide_false,reduceCtorEq,zBQ,zEH,zEI,zEE,zEF,zEG,zBq,zA9]
  refine⟨⟨true,?_⟩,by trivial⟩
  have:=zZs (c:=c) (b:=l.drop (o+1)) hni
  rw[<- hsp]at this
  rw[this.1,this.2]
theorem zAln {H:zAw}{l:List UInt8}{c:UInt8}(hl:l.length<=1099511627776):zAz prg zOm [str l,str [c]] H λu H'=>(∃ b:Bool,u = .tuple #[str (zVO c l),str (zXQ c l),.bool b])/\H=H':=by
 apply zQe
 unfold zQp
 refine zAJ (zAjG hl) ?_
 rintro _ _ ⟨⟨b,rfl⟩,rfl⟩
 simp only[zA8,zAe,zAd,zAO,zAT,zAv,zAl,zAa,if_true,if_false,zAb,zAc,decide_true,decide_false,reduceCtorEq,zBQ,zEH,zEI,zEE,zEF,zEG,zBq,zA9]
 exact⟨⟨b,rfl⟩,by trivial⟩
theorem zTZ {H:zAw}{l p:List UInt8}:zAz prg zEz [str l,str p] H λu H'=>u = .bool (decide (p.length<=l.length)&&decide (l.take p.length=p))/\H=H':=by
 apply zHU
 unfold zF5
 have e0:zAC .no .geq (.int .i64 (l.length:Nat)) (.int .i64 (p.length:Nat))=some (.bool (decide (p.length<=l.length))):=by
  rw[zAH];simp only[zC3];congr 2;rw[decide_eq_decide];omega
 simp only[zE5,zAa,e0]
 cases hx:decide (p.length<=l.length)<;>simp only[zA8,zAe,zAd,zAO,zAT,zAv,zAl,zAa,if_true,if_false,zAb,zAc,decide_true,decide_false,reduceCtorEq,zBQ,zEH,zEI,zEE,zEF,zEG,zBq,zA9,zA1]
 ·trivial
 ·have:=of_decide_eq_true hx
  simp only[zAhL this,zDG,zA8,zAe,zAd,zAO,zAT,zAv,zAl,zAa,if_true,if_false,zAb,zAc,decide_true,decide_false,reduceCtorEq,zBQ,zEH,zEI,zEE,zEF,zEG,zBq,zA9,zBh]
  trivial
structure zQQ (qs qp qn:Nat)(l:List UInt8)(c:UInt8)(h:zAw):Prop where
 s:At h qs [str l]
 p:At h qp [str [c]]
 n:At h qn [.int .i64 0]
 ne:qs≠qp/\qs≠qn
theorem zVa {qs qp qn:Nat}{l:List UInt8}{c:UInt8}(hl:l.length<=1099511627776) :
  zAmb prg (.func (.func zDP) #[] #[Ptr qp 0,Ptr qs 0,Ptr qn 0]) ((zDW c l).map λx=>[str x]) (λb=>b=qs\/b=qp\/b=qn) (zQQ qs qp qn l c):=by
 intro yv h0 J E hst hJ hbody sJ sE
 refine⟨zDP,#[],#[Ptr qp 0,Ptr qs 0,Ptr qn 0],rfl,by kernel_rfl,?_⟩
 show zAz prg zDP [yv,Ptr qp 0,Ptr qs 0,Ptr qn 0] h0 _
 apply zMB
 unfold zK7
 have e1:zLS (str [c])=some (.int .i64 1):=rfl
 have e2:zAC .no .eql (.int .i64 1) (.int .i64 0)=some (.bool false):=rfl
 refine zAi0 (λh=>h0=h) (λk hk=>?_) ?_
 ·have:=hst.p.ld (i:=0) rfl
  simp only[this,zAa,e1,e2,zAl,zAb,if_false]
  exact hk _ rfl
 rintro _ rfl
 have hn:((zDW c l).map λx=>[str x]).length=(zDW c l).length:=by simp
 rw[hn]
 let I:zAw->Prop:=λh=>∃ (pre:List (List UInt8)) (rest:List UInt8),zDW c l=pre++zDW c rest/\rest.length<=l.length/\zQQ qs qp qn rest c h/\J pre.length h
 let fin:zAw->Prop:=λh=>∃ (pre:List (List UInt8)) (rest:List UInt8),zDW c l=pre++[rest]/\zQQ qs qp qn rest c h/\J pre.length h
 refine zAi0 fin (λk hk=>?_) ?_
 ·refine L0_i I (λh=>match ld1 h (Ptr qs 0) with|some (.string s)=>s.size|_=>0) ⟨[],l,rfl,zAh _,hst,hJ⟩ ?_
  rintro h ⟨pre,rest,hsp,hle,hs,hJ⟩ k2 hk2
  have d1:=hs.s.ld (i:=0) rfl
  have d2:=hs.p.ld (i:=0) rfl
  have d3:=hs.n.ld (i:=0) rfl
  simp only[d1,d2,zAa]
  refine zAJ zAeX ?_
  rintro _ _ ⟨rfl,rfl⟩
  rcases zTW rest c with he|⟨o,he⟩
  ·rw[he,zAhK,zAa,zAl,if_pos rfl]
   refine hk _ ⟨pre,rest,?_,hs,hJ⟩
   rw[hsp,zQO (zU8 he)]
  ·obtain⟨hlt,hni,hre⟩:=zU9 he
   have hsr:zDW c rest=rest.take o::zDW c (rest.drop (o+1)):=by
    conv=>lhs;rw[hre]
    exact zOz hni
   have e3:zAC .no .add (.int .i64 (o:Nat)) (.int .i64 0)=some (.int .i64 (o:Nat)):=by
    rw[zAH];simp only[zC3];rw[zB9 (by omega) (by omega)];simp
   rw[he,zAeV,zAa,zAl,if_neg (by decide)]
   simp only[d1,d3,zAa,e3,zAhL (Nat.le_of_lt hlt)]
   have hget:((zDW c l).map λx=>[str x])[pre.length]? = some [str (rest.take o)]:=by
    rw[zAp,hsp,hsr,zBb (zAh _),Nat.sub_self];rfl
   refine(hbody _ _ _ hget hJ).mono ?_
   rintro v h' ⟨hsz,hS,hv⟩
   have keepA:∀ {q cs},(q=qs\/q=qp\/q=qn)->At h q cs->At h' q cs:=λ{q cs} hq ⟨T,a⟩=>⟨T,by rw[hS q hq (lt_of a)];exact a⟩
   have s':=keepA (.inl rfl) hs.s
   have p':=keepA (.inr (.inl rfl)) hs.p
   have n':=keepA (.inr (.inr rfl)) hs.n
   rcases hv with ⟨rfl,hJ'⟩|⟨rfl,hE⟩
   ·have d1':=s'.ld (i:=0) rfl
    have d2':=p'.ld (i:=0) rfl
    have e4:=zBV (n:=o) (by omega)
    obtain⟨h2,hst2,a2,k2'⟩:=s'.st1 (i:=0) (v:=str (rest.drop (o+1))) (by simp) rfl
    simp only[zA8,zAe,zAa,zAl,zAb,if_false,d1',d2',e1,e4,zVR (show o+1<=rest.length by omega),hst2,zAV]
    refine hk2 _ ⟨pre++[rest.take o],rest.drop (o+1),by rw[hsp,hsr];simp,by simp;omega,⟨a2,p'.keep k2' (λe=>hs.ne.1 e.symm),n'.keep k2' (λe=>hs.ne.2 e.symm),hs.ne⟩,?_⟩ ?_
    ·rw[zAq]
     exact sJ _ _ _ hJ' (k2'.mono λb _ hb => .inl hb)
    ·have:=a2.ld (i:=0) (v:=str (rest.drop (o+1))) rfl
     rw[this,d1]
     simp only[zI2,zCY];omega
   ·simp only[zA8,zAd,zAa,zAl,if_true]
    exact .inr hE
 ·rintro h ⟨pre,rest,hsp,hs,hJ⟩
  have d1:=hs.s.ld (i:=0) rfl
  rw[d1,zAa]
  have hget:((zDW c l).map λx=>[str x])[pre.length]? = some [str rest]:=by
   rw[zAp,hsp,zBb (zAh _),Nat.sub_self];rfl
  refine(hbody _ _ _ hget hJ).mono ?_
  rintro v h' ⟨hsz,hS,hv⟩
  rcases hv with ⟨rfl,hJ'⟩|⟨rfl,hE⟩
  ·left
   rw[hsp,zAq];exact hJ'
  ·exact .inr hE
theorem zVb {H:zAw}{l:List UInt8}{c:UInt8}:zAz prg zHn [str l,str [c]] H λu H' =>
  ∃ qs qp qn,u = .func (.func zDP) #[] #[Ptr qp 0,Ptr qs 0,Ptr qn 0]/\zQQ qs qp qn l c H'/\(∀ b,(b=qs\/b=qp\/b=qn)->H.size<=b/\b<H'.size)/\Keep zAM H H':=by
 apply zNB
 unfold zMz
 refine zAJ (R:=λu H'=>∃ qs qp qn,u = .func (.func zDP) #[] #[Ptr qp 0,Ptr qs 0,Ptr qn 0]/\zQQ qs qp qn l c H'/\(∀ b,(b=qs\/b=qp\/b=qn)->H.size<=b/\b<H'.size)/\Keep zAM H H') ?_ λu h hR=>hR
 apply zNC
 unfold zMA
 have c1:Value.cells (str l)=[str l].toArray:=rfl
 have c2:Value.cells (str [c])=[str [c]].toArray:=rfl
 have c3:Value.cells (.int .i64 0)=[Value.int .i64 0].toArray:=rfl
 simp only[zBa,c1,c2,c3]
 generalize hH1:H.push (.cells [str l].toArray zBd (0,0))=H1
 have k1:Keep zAM H H1:=by rw[<- hH1];exact Keep.push
 have a1:At H1 H.size [str l]:=by rw[<- hH1];exact At.push
 have s1:H1.size=H.size+1:=by rw[<- hH1];simp
 generalize hH2:H1.push (.cells [str [c]].toArray zBd (0,0))=H2
 have k2:Keep zAM H1 H2:=by rw[<- hH2];exact Keep.push
 have a2:At H2 H1.size [str [c]]:=by rw[<- hH2];exact At.push
 have s2:H2.size=H1.size+1:=by rw[<- hH2];simp
 generalize hH3:H2.push (.cells [Value.int .i64 0].toArray zHC (0,0))=H3
 have k3:Keep zAM H2 H3:=by rw[<- hH3];exact Keep.push
 have a3:At H3 H2.size [.int .i64 0]:=by rw[<- hH3];exact At.push
 have s3:H3.size=H2.size+1:=by rw[<- hH3];simp
 refine⟨H.size,H1.size,H2.size,rfl,⟨(a1.keep k2 id).keep k3 id,a2.keep k3 id,a3,by omega,by omega⟩,?_,k1.trans (k2.trans k3)⟩
 intro b hb
 omega
end Go.Proofs.YticdfkoncnnmmaaGreatDoor
