import GoSem.Op.String
import Derived.Test.YticdfkoncnnmmaaGreatDoorGI
import Derived.Lib.IndexLaws
import Derived.Test.YticdfkoncnnmmaaGreatDoorGH
import Derived.Test.YticdfkoncnnmmaaGreatDoorGE
set_option linter.unusedSimpArgs false
set_option linter.unusedVariables false
set_option linter.unusedSectionVars false
set_option maxRecDepth 100000
namespace Go.X.Diff
abbrev less (a b:List UInt8):Bool:=Op.bytesLess a b
theorem zRl:∀ a:List UInt8,less a a=false
 | []=>rfl
 | a::l=>by
  have h:=zRl l
  simp only[less,Op.bytesLess]at h ⊢
  rw[h];simp
theorem zSJ:∀ {a b c:List UInt8},less a b=true->less b c=true->less a c=true
 | _,[],_,h,_=>by cases ‹List UInt8› <;> simp[less,Op.bytesLess]at h
 | _,_::_,[],_,h=>by simp[less,Op.bytesLess]at h
 | [],_::_,_::_,_,_=>rfl
 | a::x,b::y,c::z,h1,h2=>by
  simp only[less,Op.bytesLess,zB7,zAk,decide_eq_true_eq,beq_iff_eq]at h1 h2 ⊢
  rcases h1 with h1|⟨rfl,h1⟩
  ·rcases h2 with h2|⟨rfl,h2⟩
   ·exact .inl (UInt8.lt_trans h1 h2)
   ·exact .inl h1
  ·rcases h2 with h2|⟨rfl,h2⟩
   ·exact .inl h2
   ·exact .inr ⟨rfl,zSJ h1 h2⟩
theorem zQw:∀ {a b:List UInt8},less a b=false->less b a=false->a=b
 | [],[],_,_=>rfl
 | [],_::_,h,_=>by simp[less,Op.bytesLess]at h
 | _::_,[],_,h=>by simp[less,Op.bytesLess]at h
 | a::x,b::y,h1,h2=>by
  simp only[less,Op.bytesLess,Bool.or_eq_false_iff,Bool.and_eq_false_iff,decide_eq_false_iff_not,beq_eq_false_iff_ne]at h1 h2
  have hab:a=b:=by
   rcases UInt8.lt_or_eq_of_le (UInt8.not_lt.1 h2.1) with h|h
   ·exact absurd h h1.1
   ·exact h
  subst hab
  have e1:=h1.2.resolve_left λh=>h rfl
  have e2:=h2.2.resolve_left λh=>h rfl
  rw[zQw e1 e2]
theorem zAcM {a b:List UInt8}(h:less a b=true):a≠b:=by
 rintro rfl;rw[zRl]at h;cases h
theorem zAa7 {a b:List UInt8}(h:less a b=true):less b a=false:=by
 cases hb:less b a with
 | false=>rfl
 | true=>have:=zSJ h hb;rw[zRl]at this;cases this
structure zAlD where
 name:List UInt8
 fr:List UInt8
 to:List UInt8
def zAlD.turn (s:zAlD):zAlD:=⟨s.name,s.to,s.fr⟩
section
variable {α:Type} [DecidableEq α] (nm sh:α->List UInt8)
def Ris (l:List α):Prop:=l.Pairwise λx y=>less (nm x) (nm y)=true
variable {nm sh}
theorem Ris.cons {x:α}{l:List α}(h:Ris nm (x::l)):(∀ y∈l,less (nm x) (nm y)=true)/\Ris nm l:=zCf.1 h
end
end Go.X.Diff
namespace Go.Proofs.YticdfkoncnnmmaaGreatDoor
open Go.X Go.X.Diff
structure zTq {α:Type}(c:α->α->Int):Prop where
 three:∀ a b,c a b = -1\/c a b=0\/c a b=1
 turn:∀ a b,c b a = -(c a b)
 zero:∀ a b,c a b=0↔a=b
 trans:∀ {a b d},c a b<=0->c b d<=0->c a d<=0
namespace zTq
variable {α β:Type} {c:α->α->Int} {e:β->β->Int}
theorem self (h:zTq c)(a:α):c a a=0:=(h.zero a a).2 rfl
theorem both (h:zTq c){a b:α}(h1:c a b<=0)(h2:c b a<=0):a=b:=by
 have:=h.turn a b;exact(h.zero a b).1 (by omega)
theorem chain (h:zTq c){a b d:α}(h1:c a b<=0)(h2:c b d<=0):c a d=0↔(a=b/\b=d):=by
 constructor
 ·intro h0
  obtain rfl:=(h.zero a d).1 h0
  have:=h.both h1 h2
  exact⟨this,this.symm⟩
 ·rintro⟨rfl,rfl⟩;exact h.self _
theorem lt_le (h:zTq c){a b d:α}(h1:c a b<0)(h2:c b d<=0):c a d<0:=by
 have h3:=h.trans (Int.le_of_lt h1) h2
 have h4:=(h.chain (Int.le_of_lt h1) h2)
 have:c a d≠0:=λh0=>by
  obtain⟨rfl,_⟩:=h4.1 h0
  rw[h.self]at h1;omega
 omega
def lex (c:α->α->Int)(e:β->β->Int)(a b:α×β):Int:=if c a.1 b.1≠0 then c a.1 b.1 else e a.2 b.2
theorem lex_ord (h:zTq c)(k:zTq e):zTq (lex c e) where
 three a b:=by
  unfold lex;split
  ·exact h.three _ _
  ·exact k.three _ _
 turn a b:=by
  unfold lex
  have h1:=h.turn a.1 b.1
  have h2:=k.turn a.2 b.2
  split<;>split<;>omega
 zero a b:=by
  unfold lex
  have h1:=h.zero a.1 b.1
  have h2:=k.zero a.2 b.2
  split
  ·rename_i hn
   constructor
   ·intro h0;exact absurd h0 hn
   ·rintro rfl;exact absurd (h1.2 rfl) hn
  ·rename_i hn
   have:=h1.1 (Classical.not_not.1 hn)
   rw[h2]
   exact⟨λh=>Prod.ext this h,λh=>by rw[h]⟩
 trans {a b d} h1 h2:=by
  unfold lex at h1 h2 ⊢
  split at h1
  ·rename_i n1
   split at h2
   ·rename_i n2
    have:=h.lt_le (a:=a.1) (b:=b.1) (d:=d.1) (by omega) h2
    rw[if_pos (by omega)];omega
   ·rename_i n2
    have e1:=(h.zero _ _).1 (Classical.not_not.1 n2)
    rw[<- e1,if_pos n1];exact h1
  ·rename_i n1
   have e1:=(h.zero _ _).1 (Classical.not_not.1 n1)
   rw[e1]
   split at h2
   ·rename_i n2
    rw[if_pos n2];exact h2
   ·rename_i n2
    rw[if_neg n2];exact k.trans h1 h2
theorem pull {f:β->α}(h:zTq c)(hf:∀ a b,f a=f b->a=b):zTq λa b=>c (f a) (f b) where
 three a b:=h.three _ _
 turn a b:=h.turn _ _
 zero a b:=by rw[h.zero];exact⟨hf a b,λh=>by rw[h]⟩
 trans h1 h2:=h.trans h1 h2
end zTq
def zAa8 (a b:Int):Int:=if a<b then -1 else if b<a then 1 else 0
theorem zLj:zTq zAa8 where
 three a b:=by
  unfold zAa8
  split
  ·simp
  split<;>simp
 turn a b:=by unfold zAa8;split<;>split<;>first|omega|(split<;>omega)
 zero a b:=by
  unfold zAa8
  split
  ·omega
  split<;>omega
 trans {a b d} h1 h2:=by
  unfold zAa8 at *
  split at h1<;>split at h2<;>split<;>first|omega|(split<;>split at h1<;>split at h2<;>omega)|(split<;>split at h1<;>omega)|(split<;>split at h2<;>omega)|(split<;>omega)
def zME (a b:List UInt8):Int:=if less a b=true then -1 else if less b a=true then 1 else 0
theorem zGi:zTq zME where
 three a b:=by
  unfold zME
  split
  ·simp
  split<;>simp
 turn a b:=by
  unfold zME
  by_cases h1:less a b=true
  ·simp[h1,zAa7 h1]
  ·rw[if_neg h1]
   by_cases h2:less b a=true
   ·simp[h1,h2]
   ·rw[if_neg h2,if_neg h2,if_neg h1];rfl
 zero a b:=by
  unfold zME
  by_cases h1:less a b=true
  ·rw[if_pos h1];exact⟨λh=>by omega,λh=>absurd h (zAcM h1)⟩
  ·rw[if_neg h1]
   by_cases h2:less b a=true
   ·rw[if_pos h2];exact⟨λh=>by omega,λh=>absurd h.symm (zAcM h2)⟩
   ·rw[if_neg h2];exact⟨λ_=>zQw (by simpa using h1) (by simpa using h2),λ_=>rfl⟩
 trans {a b d} h1 h2:=by
  unfold zME at *
  by_cases a1:less a b=true
  ·by_cases a2:less b d=true
   ·rw[if_pos (zSJ a1 a2)];omega
   ·rw[if_neg a2]at h2
    by_cases a3:less d b=true
    ·rw[if_pos a3]at h2;omega
    ·have:=zQw (by simpa using a2) (by simpa using a3)
     rw[<- this,if_pos a1];omega
  ·rw[if_neg a1]at h1
   by_cases a3:less b a=true
   ·rw[if_pos a3]at h1;omega
   ·have:=zQw (by simpa using a1) (by simpa using a3)
    rw[this];exact h2
def zVn:List Int->List Int->Int
 | [],[]=>0
 | [],_::_ => -1
 | _::_,[]=>1
 | a::x,b::y=>if zAa8 a b≠0 then zAa8 a b else zVn x y
theorem zNb {a b:Int}{x y:List Int}:zVn (a::x) (b::y)=if zAa8 a b≠0 then zAa8 a b else zVn x y:=rfl
theorem zZV:zTq zVn where
 three:=by
  intro a
  induction a with
  | nil=>intro b;cases b<;>simp[zVn]
  | cons a x ih =>
   intro b
   cases b with
   | nil=>simp[zVn]
   | cons b y =>
    rw[zNb]
    split
    ·exact zLj.three _ _
    exact ih y
 turn:=by
  intro a
  induction a with
  | nil=>intro b;cases b<;>simp[zVn]
  | cons a x ih =>
   intro b
   cases b with
   | nil=>simp[zVn]
   | cons b y =>
    rw[zNb,zNb]
    have h1:=zLj.turn a b
    have h2:=ih y
    split<;>split<;>omega
 zero:=by
  intro a
  induction a with
  | nil=>intro b;cases b<;>simp[zVn]
  | cons a x ih =>
   intro b
   cases b with
   | nil=>simp[zVn]
   | cons b y =>
    rw[zNb]
    have h1:=zLj.zero a b
    split
    ·rename_i hn
     constructor
     ·intro h0;exact absurd h0 hn
     ·intro h;injection h with e1 e2;exact absurd (h1.2 e1) hn
    ·rename_i hn
     have:=h1.1 (Classical.not_not.1 hn)
     rw[ih y,this];simp
 trans:=by
  intro a
  induction a with
  | nil=>intro b d h1 h2;cases b<;>cases d<;>simp[zVn]at *
  | cons a x ih =>
   intro b d h1 h2
   cases b with
   | nil=>simp[zVn]at h1
   | cons b y =>
    cases d with
    | nil=>simp[zVn]at h2
    | cons d z =>
     rw[zNb]at *
     split at h1
     ·rename_i n1
      split at h2
      ·rename_i n2
       have:=zLj.lt_le (a:=a) (b:=b) (d:=d) (by omega) h2
       rw[if_pos (by omega)];omega
      ·rename_i n2
       have e1:=(zLj.zero b d).1 (Classical.not_not.1 n2)
       rw[<- e1,if_pos n1];exact h1
     ·rename_i n1
      have e1:=(zLj.zero a b).1 (Classical.not_not.1 n1)
      rw[e1]
      split at h2
      ·rename_i n2
       rw[if_pos n2];exact h2
      ·rename_i n2
       rw[if_neg n2];exact ih h1 h2
def zAjY (a b:List UInt8):Int:=if decide (a=[]) != decide (b=[]) then zME b a else zME a b
def zAld (a:List UInt8):Int:=if a=[] then 1 else 0
theorem zZW {a:List UInt8}(h:a≠[]):zME [] a = -1/\zME a []=1:=by
 cases a with
 | nil=>exact absurd rfl h
 | cons x l=>exact⟨rfl,rfl⟩
theorem zAfb:zAjY=λa b=>zTq.lex zAa8 zME (zAld a,a) (zAld b,b):=by
 funext a b
 unfold zAjY zTq.lex zAld
 by_cases ha:a=[]
 ·by_cases hb:b=[]
  ·subst ha hb;rfl
  ·subst ha
   simp only[decide_true,if_true,decide_eq_false hb,if_neg hb]
   rw[(zZW hb).2];rfl
 ·by_cases hb:b=[]
  ·subst hb
   simp only[decide_true,if_true,decide_eq_false ha,if_neg ha]
   rw[(zZW ha).1];rfl
  ·simp only[decide_eq_false ha,if_neg ha,decide_eq_false hb,if_neg hb];rfl
theorem zAfc:zTq zAjY:=by
 rw[zAfb]
 exact(zTq.lex_ord zLj zGi).pull (f:=λa=>(zAld a,a)) λa b h=>congrArg Prod.snd h
def zAeq (v w:Ver):Int:=if zVn v.p w.p≠0 then zVn v.p w.p else zAjY v.pre w.pre
theorem zQx:zTq zAeq :=
 (zTq.lex_ord zZV zAfc).pull (f:=λv:Ver=>(v.p,v.pre)) λa b h=>by
  cases a;cases b;simp only[Prod.mk.injEq]at h;simp[h.1,h.2]
def ltV (v w:Ver):Bool:=decide (zAeq v w<0)
end Go.Proofs.YticdfkoncnnmmaaGreatDoor
namespace Go.Proofs.YticdfkoncnnmmaaGreatDoor
open Go.X Go.X.Diff
def zWe (c:UInt8)(l:List UInt8):List UInt8:=l.takeWhile (· != c)
def zYk (c:UInt8)(l:List UInt8):List UInt8:=(l.dropWhile (· != c)).drop 1
def zDX (c:UInt8):List UInt8->List (List UInt8)
 | []=>[[]]
 | x::l=>if x=c then []::zDX c l else match zDX c l with
  | []=>[[x]]
  | h::t=>(x::h)::t
theorem zRm {c:UInt8}:∀ {l:List UInt8},c∉l->zDX c l=[l]
 | [],_=>rfl
 | x::l,h=>by
  simp only[zAq,not_or]at h
  rw[zDX,if_neg (λe=>h.1 e.symm),zRm h.2]
theorem zOX {c:UInt8}{b:List UInt8}:∀ {a:List UInt8},c∉a->zDX c (a++c::b)=a::zDX c b
 | [],_=>by rw[zAX,zDX,if_pos rfl]
 | x::l,h=>by
  simp only[zAq,not_or]at h
  rw[zCu,zDX,if_neg (λe=>h.1 e.symm),zOX h.2]
theorem zZX {c:UInt8}{l:List UInt8}(h:c∉l):zWe c l=l/\zYk c l=[]:=by
 have hp:∀ x∈l,(x != c)=true:=λx hx=>by simp only[bne_iff_ne];rintro rfl;exact h hx
 unfold zWe zYk
 have h1:=List.takeWhile_append_of_pos (l₂:=[]) hp
 have h2:=List.dropWhile_append_of_pos (l₂:=[]) hp
 simp only[zAP,List.takeWhile_nil,List.dropWhile_nil]at h1 h2
 rw[h1,h2];exact⟨rfl,rfl⟩
theorem zZY {c:UInt8}{a b:List UInt8}(h:c∉a):zWe c (a++c::b)=a/\zYk c (a++c::b)=b:=by
 have hp:∀ x∈a,(x != c)=true:=λx hx=>by simp only[bne_iff_ne];rintro rfl;exact h hx
 unfold zWe zYk
 rw[List.takeWhile_append_of_pos hp,List.dropWhile_append_of_pos hp];simp
theorem zVo {l:List UInt8}{c:UInt8}(h:Lib.indexByte l c = -1):c∉l:=λhm=>by
 obtain⟨k,hk⟩:=List.getElem?_of_mem hm
 exact Lib.indexByte_none h k hk
theorem zVp {l:List UInt8}{c:UInt8}{o:Nat}(h:Lib.indexByte l c=o):o<l.length/\c∉l.take o/\l=l.take o++c::l.drop (o+1):=by
 obtain⟨h1,h2⟩:=Lib.indexByte_some h
 obtain⟨hlt,he⟩:=zAS.1 h1
 refine⟨hlt,λhm=>?_,?_⟩
 ·obtain⟨k,hk⟩:=List.getElem?_of_mem hm
  rw[zCn]at hk
  split at hk
  ·rename_i hlt;exact h2 k hlt hk
  ·cases hk
 ·conv=>lhs;rw[<- zBx o l]
  rw[zBX hlt,he]
theorem zUe (l:List UInt8)(c:UInt8):Lib.indexByte l c = -1\/∃ o:Nat,Lib.indexByte l c=o:=by
 have:=Lib.indexByte_ge l c
 by_cases h:Lib.indexByte l c = -1
 ·exact .inl h
 ·exact .inr ⟨(Lib.indexByte l c).toNat,by omega⟩
theorem zRn (n:Nat):∀ x∈zHk n,48<=x.toNat/\x.toNat<=57:=by
 induction n using Nat.strongRecOn with
 | ind n ih =>
  intro x hx
  have hd:∀ m,m<10->(zDw m).toNat=48+m:=λm hm=>by unfold zDw;rw[UInt8.toNat_ofNat'];omega
  rw[zHk]at hx
  split at hx
  ·obtain rfl:x=zDw n:=by simpa using hx
   rw[hd _ (by omega)];omega
  ·rcases zAs.1 hx with hx|hx
   ·exact ih _ (by omega) x hx
   ·obtain rfl:x=zDw (n % 10):=by simpa using hx
    rw[hd _ (by omega)];omega
theorem zAh5 (n:Nat):zHk n≠[]:=by rw[zHk];split<;>simp
def zAbL (l:List UInt8):Nat:=l.foldl (λn c=>n*10+(c.toNat-48)) 0
theorem zXq {l:List UInt8}{c:UInt8}:zAbL (l++[c])=zAbL l*10+(c.toNat-48):=by simp[zAbL]
theorem zWf (n:Nat):zAbL (zHk n)=n:=by
 induction n using Nat.strongRecOn with
 | ind n ih =>
  have hd:∀ m,m<10->(zDw m).toNat=48+m:=λm hm=>by unfold zDw;rw[UInt8.toNat_ofNat'];omega
  rw[zHk]
  split
  ·show 0*10+((zDw n).toNat-48)=n
   rw[hd _ (by omega)];omega
  ·rw[zXq,ih _ (by omega),hd _ (by omega)];omega
def zWg (l:List UInt8)(n:Int):Prop:=∀ m:Nat,m<=999999->l=zHk m->n=m
structure zAmD (s:List UInt8)(v:Ver):Prop where
 p3:v.p.length=3
 pre:v.pre=zYk 45 s
 parts:∀ (i:Nat) (l:List UInt8),(zDX 46 (zWe 45 s))[i]? = some l->∃ n,v.p[i]? = some n/\zWg l n
theorem zOw {v:Ver}(hp:v.p.length=3)(hok:zG4 v=true):zDX 46 (zWe 45 (zHP v))=v.p.map (λn=>zHk n.toNat)/\zYk 45 (zHP v)=v.pre:=by
 obtain⟨p,pre⟩:=v
 have hnot:∀ (n:Nat) (c:UInt8),c.toNat<48->c∉zHk n:=λn c hc hm=>by have:=zRn n c hm;omega
 match p,hp with
 | [a,b,c],_ =>
  unfold zHP
  rw[if_pos hok]
  simp only[zQU,zA2,List.map_nil,zA7,zCm,zAP]
  have h45:(45:UInt8)∉zHk a.toNat++([46]++zHk b.toNat++([46]++zHk c.toNat)):=by
   simp only[zAs,zAM,not_or]
   exact⟨hnot _ _ (by decide),⟨by decide,hnot _ _ (by decide)⟩,by decide,hnot _ _ (by decide)⟩
  have hs:zDX 46 (zHk a.toNat++([46]++zHk b.toNat++([46]++zHk c.toNat)))=[zHk a.toNat,zHk b.toNat,zHk c.toNat]:=by
   rw[show zHk a.toNat++([46]++zHk b.toNat++([46]++zHk c.toNat))=zHk a.toNat++46::(zHk b.toNat++46::zHk c.toNat) by simp]
   rw[zOX (hnot _ _ (by decide)),zOX (hnot _ _ (by decide)),zRm (hnot _ _ (by decide))]
  split
  ·rename_i he
   rw[zAP]
   obtain⟨e1,e2⟩:=zZX h45
   rw[e1,e2];exact⟨hs,he.symm⟩
  ·obtain⟨e1,e2⟩:=zZY (b:=pre) h45
   rw[e1,e2];exact⟨hs,rfl⟩
theorem zAfd {v:Ver}(hp:v.p.length=3)(hok:zG4 v=true):zHP v≠[]:=by
 intro h
 have:=(zOw hp hok).1
 rw[h]at this
 have:=congrArg List.length this
 simp[zWe,zDX,hp]at this
theorem zZZ {v w:Ver}{s:List UInt8}(hw:w.p.length=3)(hok:zG4 w=true)(hs:zHP w=s)(h:zAmD s v):v=w:=by
 obtain⟨e1,e2⟩:=zOw hw hok
 rw[hs]at e1 e2
 obtain⟨h1,h2,h3⟩:=h
 rw[e2]at h2
 rw[e1]at h3
 obtain⟨p,pre⟩:=v
 obtain⟨q,qre⟩:=w
 simp only at *
 match p,q,h1,hw with
 | [x,y,z],[a,b,c],_,_ =>
  have hall:[a,b,c].all zNK=true:=by unfold zG4 at hok;simp only[zAk]at hok;exact hok.1
  have ha:=zJy (zAy.1 hall a (by simp))
  have hb:=zJy (zAy.1 hall b (by simp))
  have hc:=zJy (zAy.1 hall c (by simp))
  obtain⟨n0,k0,r0⟩:=h3 0 _ rfl
  obtain⟨n1,k1,r1⟩:=h3 1 _ rfl
  obtain⟨n2,k2,r2⟩:=h3 2 _ rfl
  have r0:=r0 a.toNat (by omega) rfl
  have r1:=r1 b.toNat (by omega) rfl
  have r2:=r2 c.toNat (by omega) rfl
  simp at k0 k1 k2
  subst k0 k1 k2 h2
  congr 1
  congr 1
  ·omega
  ·congr 1
   ·omega
   ·congr 1;omega
theorem zZ0 {v w:Ver}(hv:v.p.length=3)(hw:w.p.length=3)(ho:zG4 v=true)(ho2:zG4 w=true)(h:zHP v=zHP w):v=w:=by
 refine zZZ (s:=zHP w) hw ho2 rfl ⟨hv,?_,?_⟩
 ·rw[<- h];exact(zOw hv ho).2.symm
 ·intro i l hl
  rw[<- h,(zOw hv ho).1,zAr]at hl
  obtain⟨n,hn,rfl⟩:=zBF.1 hl
  refine⟨n,hn,λm _ he=>?_⟩
  have:=congrArg zAbL he
  rw[zWf,zWf]at this
  have hall:v.p.all zNK=true:=by unfold zG4 at ho;simp only[zAk]at ho;exact ho.1
  have:=zJy (zAy.1 hall n (zAD hn))
  omega
theorem zUT {v:Ver}(hp:v.p.length=3)(hok:zG4 v=true):(zDX 46 (zWe 45 (zHP v))).length=3:=by
 rw[(zOw hp hok).1,zAd,hp]
theorem zR3 {v:Ver}(hp:v.p.length=3):(zHP v).length<=40:=by
 unfold zHP
 split
 ·rename_i hok
  obtain⟨p,pre⟩:=v
  match p,hp with
  | [a,b,c],_ =>
   have hall:[a,b,c].all zNK=true:=by unfold zG4 at hok;simp only[zAk]at hok;exact hok.1
   have hpre:pre.length<=16:=by unfold zG4 zAcJ at hok;simp only[zAk,decide_eq_true_eq]at hok;exact hok.2.1
   have ha:=zJy (zAy.1 hall a (by simp))
   have hb:=zJy (zAy.1 hall b (by simp))
   have hc:=zJy (zAy.1 hall c (by simp))
   have l1:=zOV (n:=a.toNat) (by omega)
   have l2:=zOV (n:=b.toNat) (by omega)
   have l3:=zOV (n:=c.toNat) (by omega)
   simp only[zQU,zA2,List.map_nil,zA7,zCm,zAP]
   split<;>simp<;>omega
 ·simp
theorem zBm {v:Value}{l:List (Option Value×Value)}{p:Prop}:Mre ((some v,v)::l) p↔Mre l p:=by simp
theorem zEJ {a b:Value}:zE2 0 (.tuple #[a,b])=some a:=rfl
theorem zEK {a b:Value}:zE2 1 (.tuple #[a,b])=some b:=rfl
theorem zEG {a b c:Value}:zE2 0 (.tuple #[a,b,c])=some a:=rfl
theorem zEH {a b c:Value}:zE2 1 (.tuple #[a,b,c])=some b:=rfl
theorem zEI {a b c:Value}:zE2 2 (.tuple #[a,b,c])=some c:=rfl
def At (h:zAw)(q:Nat)(cs:List Value):Prop:=∃ T,h[q]? = some (.cells cs.toArray T (0,0))
section
variable {h h' H:zAw} {q:Nat} {cs:List Value}
theorem At.push {T:TypeId}:At (h.push (.cells cs.toArray T (0,0))) h.size cs:=⟨T,zCh⟩
theorem At.keep {S:zA3}(a:At h q cs)(k:Keep S h h')(hs:¬ S q):At h' q cs:=by obtain⟨T,a⟩:=a;exact⟨T,k.at a hs⟩
theorem At.lt (a:At h q cs):q<h.size:=by obtain⟨T,a⟩:=a;exact lt_of a
theorem At.pt (a:At h q cs):Pt h q 0 cs:=by obtain⟨T,a⟩:=a;exact Pt.of a
theorem At.ldN (a:At h q cs){n:Nat}(hn:cs.length=n):ldN n h (Ptr q 0)=some (.agg cs.toArray):=a.pt.agg hn
theorem At.ld (a:At h q cs){i:Nat}{v:Value}(hi:cs[i]? = some v):ld1 h (Ptr q i)=some v:=by obtain⟨T,a⟩:=a;exact zSk a hi
theorem At.st (a:At h q cs){n:Nat}{ds:List Value}(hn:cs.length=n)(hd:ds.length=n)(h1:∀ c∈ds,c.oneCell'=true) :
  ∃ h',stN n h (Ptr q 0) (.agg ds.toArray)=some h'/\At h' q ds/\Keep (· = q) h h':=by
 obtain⟨T,a⟩:=a
 have:=zPN (n:=n) (o:=0) (A:=[]) (B:=cs) (C:=[]) (B':=ds) (by rw[zAX,zAP];exact a) rfl (by simp[hn]) hd (zVm h1)
 rw[zAX,zAP]at this
 exact⟨_,this,⟨T,zBp a⟩,Keep.set rfl⟩
theorem At.st1 (a:At h q cs){i:Nat}{v:Value}(hi:i<cs.length)(hv:v.oneCell'=true):∃ h',st1 h (Ptr q i) v=some h'/\At h' q (cs.set i v)/\Keep (· = q) h h':=by
 obtain⟨T,a⟩:=a
 exact⟨_,zYi a hi hv,⟨T,zBp a⟩,Keep.set rfl⟩
theorem _root_.Go.X.Keep.fresh {S:zA3}(k:Keep zAK H h)(k2:Keep S h h')(hs:∀ b,S b->H.size<=b):Keep zAK H h' :=
 ⟨zBk k.1 k2.1,λi hi _=>by rw[k2.2 i (zAN hi k.1) (λh=>by have:=hs i h;omega),k.2 i hi id]⟩
end
theorem Ver.cases3 {v:Ver}(h:v.wf):∃ a b c,v.p=[a,b,c]:=by
 obtain⟨p,pre⟩:=v
 have:=h.p3
 match p,this with
 | [a,b,c],_=>exact⟨a,b,c,rfl⟩
section
variable {h:zAw} {q:Nat} {v:Ver}
theorem zP7 (a:At h q (zEP v))(hv:v.wf):ldN 4 h (Ptr q 0)=some (.agg (zEP v).toArray):=a.ldN (zDU hv)
theorem zAcN (a:At h q (zEP v))(hv:v.wf):ld1 h (Ptr q 3)=some (str v.pre):=a.ld (by
 unfold zEP
 rw[zBc (by simp[hv.p3])]
 simp[hv.p3])
theorem zR4 (a:At h q (zEP v)){i:Nat}{x:Int}(hi:v.p[i]? = some x):ld1 h (Ptr q i)=some (.int .i64 x):=a.ld (by
 unfold zEP
 have hlt:=(zAS.1 hi).1
 rw[List.getElem?_append_left (by simpa using hlt)]
 exact zIf hi)
end
theorem zAm9:zBE prg zAT=some (zEP ⟨[0,0,0],[]⟩).toArray:=by kernel_rfl
def zEY:Ver:=⟨[0,0,0],[]⟩
theorem zG5:zEY.wf:=⟨rfl,by simp[zEY]⟩
theorem zAlE:zCE prg zAT []=some (.agg (zEP zEY).toArray):=by kernel_rfl
theorem zAcO:∀ {i:Nat} {p p2:List Int} {a b:Int},p.take i=p2.take i->p[i]? = some a->p2[i]? = some b->a≠b->zVn p p2=zAa8 a b
 | 0,x::p,y::p2,a,b,_,h1,h2,hne=>by
  simp at h1 h2
  subst h1 h2
  rw[zNb,if_pos]
  rw[ne_eq,zLj.zero];exact hne
 | i+1,x::p,y::p2,a,b,ht,h1,h2,hne=>by
  simp only[zBY,List.cons.injEq]at ht
  obtain⟨rfl,ht⟩:=ht
  rw[zNb,if_neg (by rw[Classical.not_not];exact zLj.self x)]
  exact zAcO ht (by simpa using h1) (by simpa using h2) hne
 | i,[],_,a,b,_,h1,_,_=>by simp at h1
 | i,_::_,[],a,b,_,_,h2,_=>by simp at h2
theorem zZ1 {p p2:List Int}{i:Nat}{a:Int}(ht:p.take i=p2.take i)(h1:p[i]? = some a)(h2:p2[i]? = some a):p.take (i+1)=p2.take (i+1):=by
 rw[zAF,zAF,ht,h1,h2]
theorem zZ2:∀ {a b:List UInt8},Lib.compareBytes a b=zME a b
 | [],[]=>rfl
 | [],_::_=>rfl
 | _::_,[]=>rfl
 | a::x,b::y=>by
  rw[Lib.compareBytes,zZ2 (a:=x) (b:=y)]
  unfold zME
  have e1:less (a::x) (b::y)=(decide (a<b) || (a == b&&less x y)):=rfl
  have e2:less (b::y) (a::x)=(decide (b<a) || (b == a&&less y x)):=rfl
  rw[e1,e2]
  by_cases h1:a<b
  ·simp[h1]
  ·by_cases h2:b<a
   ·have hne:a≠b:=λe=>by subst e;exact h1 h2
    simp[h1,h2,hne]
   ·have:a=b:=UInt8.le_antisymm (UInt8.not_lt.1 h2) (UInt8.not_lt.1 h1)
    subst this;simp[h1]
theorem zAfe {H:zAw}{a b:Int}:zAz prg zKO [.int .i64 a,.int .i64 b] H λu H'=>u = .int .i64 (zAa8 a b)/\H=H':=by
 have nan:∀ x:Int,zAz prg zJY [.int .i64 x] H λu H'=>u = .bool false/\H=H':=λx=>by
  apply zPr
  unfold zPb
  simp only[zAJ,zC5,zAa,bne_self_eq_false]
  exact⟨by trivial,by trivial⟩
 apply zOm
 unfold zNE
 refine zAI (nan a) ?_
 rintro _ _ ⟨rfl,rfl⟩
 refine zAI (nan b) ?_
 rintro _ _ ⟨rfl,rfl⟩
 simp only[zBa,zAf,zAe,zAO,zAU,zAv,zAl,zAa,if_true,if_false,zAb,zAc,decide_true,decide_false,reduceCtorEq,zBW,zEJ,zEK,zEG,zEH,zEI,zBm,zA8,zAJ,zC5,decide_eq_true_eq]
 unfold zAa8
 by_cases h1:a<b
 ·simp[h1]
 ·by_cases h2:a > b
  ·have h2':b<a:=h2
   simp[h1,h2']
  ·have h2':¬ b<a:=h2
   simp[h1,h2']
theorem zYP {H:zAw}{q r:Nat}{v w:Ver}(hv:v.wf)(hw:w.wf)(a:At H q (zEP v))(b:At H r (zEP w)) :
  zAz prg zF0 [.slice (some ⟨q,0,none⟩) 3 3,.slice (some ⟨r,0,none⟩) 3 3] H λu H'=>u = .int .i64 (zVn v.p w.p)/\H=H':=by
 apply zJ7
 unfold zH1
 have hp3:=hv.p3
 have hq3:=hw.p3
 refine zNB (λu h=>v.p=w.p/\H=h) (λk3 hk3=>?_) ?_
 ·rw[zKV,zAa]
  refine zKn (λu h=>∃ i:Nat,i<=3/\u = .int .i64 (i:Nat)/\v.p.take i=w.p.take i/\H=h) (λu _=>match u with | .int _ t=>3-t.toNat|_=>0) ⟨0,by omega,rfl,rfl,rfl⟩ ?_
  rintro _ _ ⟨i,hi,rfl,ht,rfl⟩ k hk
  have e3:((3:Nat):Int)=3:=rfl
  simp only[zAJ,zC5,zAa,zAl,decide_eq_true_eq,e3]
  by_cases hlt:(i:Int)<3
  ·rw[if_pos hlt]
   have h1:v.p[i]? = some (v.p[i]'(by omega)):=zAj _
   have h2:w.p[i]? = some (w.p[i]'(by omega)):=zAj _
   generalize (v.p[i]'(by omega))=x at h1
   generalize (w.p[i]'(by omega))=y at h2
   have hinc:IntKind.i64.wrap ((i:Int)+1)=(i+1:Nat):=by rw[zCc]<;>omega
   have i1:ixS 1 (.slice (some ⟨q,0,none⟩) 3 3) (.int .i64 (i:Nat))=some (Ptr q i):=by
    simp only[ixS];rw[if_pos ⟨by omega,by omega⟩];simp
   have i2:ixS 1 (.slice (some ⟨r,0,none⟩) 3 3) (.int .i64 (i:Nat))=some (Ptr r i):=by
    simp only[ixS];rw[if_pos ⟨by omega,by omega⟩];simp
   have hge:¬ ((i:Int)>=3):=by omega
   simp only[i1,i2,zAa,zKV,e3,zR4 a h1,zR4 b h2,zAJ,zC5,zAl,hinc,hge,zBa,zAf,zAe,zAO,zAU,zAv,zAl,zAa,if_true,if_false,zAb,zAc,decide_true,decide_false,reduceCtorEq,zBW,zEJ,zEK,zEG,zEH,zEI,zBm,zA8]
   refine zAI zAfe ?_
   rintro _ _ ⟨rfl,rfl⟩
   simp only[zAJ,zC5,zAa,zAl,bne_iff_ne,ne_eq,zLj.zero]
   by_cases hxy:x=y
   ·subst hxy
    rw[if_neg (by simp)]
    exact hk _ _ ⟨i+1,by omega,rfl,zZ1 ht h1 h2,rfl⟩ (by show 3-(i+1)<3-i;omega)
   ·rw[if_pos hxy,zAcO ht h1 h2 hxy]
    exact⟨by trivial,by trivial⟩
  ·rw[if_neg hlt]
   rw[zAp (by omega),zAp (by omega)]at ht
   exact hk3 _ _ ⟨ht,rfl⟩
 rintro _ _ ⟨hp,rfl⟩
 rw[zKV,zAa,zKV,zAa]
 have e3:((3:Nat):Int)=3:=rfl
 have e4:¬ ((3:Int)<3):=by omega
 simp only[zAJ,zC5,zAa,zAl,e3,e4,zBa,zAf,zAe,zAO,zAU,zAv,zAl,zAa,if_true,if_false,zAb,zAc,decide_true,decide_false,reduceCtorEq,zBW,zEJ,zEK,zEG,zEH,zEI,zBm,zA8]
 exact⟨by rw[(zZV.zero _ _).2 hp],by trivial⟩
theorem zXr {args:Array Value}:xtV prg zEn args=Extern.BytealgCompare.compare args:=by kernel_rfl
theorem zTg {H:zAw}{a b:List UInt8}:zAz prg zGy [str a,str b] H λu H'=>u = .int .i64 (zME a b)/\H=H':=by
 apply zOl
 unfold zND
 refine zAI (R:=λu H'=>u = .int .i64 (zME a b)/\H=H') ?_ λu h hR=>hR
 apply zH2
 unfold zGe
 intro w hw
 refine⟨_,w,by rw[zXr];exact Lib.run_compareString _ _ w,zJK.rfl' w,?_,hw.symm⟩
 rw[<- zZ2]
theorem zAjZ {H:zAw}{v w:Ver}(hv:v.wf)(hw:w.wf):zAz prg zF7 [.agg (zEP v).toArray,.agg (zEP w).toArray] H λu H'=>u = .int .i64 (zAeq v w)/\Keep zAK H H':=by
 apply zMn
 unfold zKy
 simp only[zB3,zBb]
 generalize hH1:H.push (.cells (zEP v).toArray zAT (0,0))=H1
 have k1:Keep zAK H H1:=by rw[<- hH1];exact Keep.push
 have a1:At H1 H.size (zEP v):=by rw[<- hH1];exact At.push
 generalize hH2:H1.push (.cells (zEP w).toArray zAT (0,0))=H2
 have k2:Keep zAK H1 H2:=by rw[<- hH2];exact Keep.push
 have b1:At H2 H1.size (zEP w):=by rw[<- hH2];exact At.push
 have a2:=a1.keep k2 id
 have kk:=k1.trans k2
 have sl:∀ q:Nat,slA 3 1 (Ptr q 0) none none none=some (.slice (some ⟨q,0,none⟩) 3 3):=λq=>by simp[slA,zNw,bnd]
 have e1:zTt .eql ⟨v.pre.toArray⟩ ⟨#[]⟩=some (.bool (decide (v.pre=[]))):=zRf (b:=[])
 have e2:zTt .eql ⟨w.pre.toArray⟩ ⟨#[]⟩=some (.bool (decide (w.pre=[]))):=zRf (b:=[])
 simp only[zBi,zAa,zAh,sl]
 refine zAI (zYP hv hw a2 b1) ?_
 rintro _ _ ⟨rfl,rfl⟩
 have bb:∀ x y:Bool,zAB .bool .neq (.bool x) (.bool y)=some (.bool (x != y)):=λx y=>by cases x<;>cases y<;>rfl
 unfold zAeq
 have hne:((zVn v.p w.p != 0)=true)=(zVn v.p w.p≠0):=by simp
 simp only[zAJ,zC5,zAa,zAl,hne]
 by_cases hz:zVn v.p w.p≠0
 ·rw[if_pos hz,if_pos hz]
  exact⟨by trivial,kk⟩
 ·rw[if_neg hz,if_neg hz]
  unfold zAjY
  cases hx:decide (v.pre=[])<;>cases hy:decide (w.pre=[])<;>simp only[zBa,zAf,zAe,zAO,zAU,zAv,zAl,zAa,if_true,if_false,zAb,zAc,decide_true,decide_false,reduceCtorEq,zBW,zEJ,zEK,zEG,zEH,zEI,zBm,zA8,zBi,zAh,zAcN a2 hv,zAcN b1 hw,zGu,e1,e2,hx,hy,bb,bne_self_eq_false,Bool.bne_true,Bool.bne_false]<;>exact zTg.mono λu h ⟨e,hh⟩=>⟨e,hh ▸ kk⟩
theorem zUf {a b:List UInt8}{q:EqK}(h:a.length+b.length<=9223372036854775807):zAB q .add (str a) (str b)=some (str (a++b)):=by rw[zGu];exact zV1 h
theorem zDN {a b:List UInt8}{q:EqK}:zAB q .eql (str a) (str b)=some (.bool (decide (a=b))):=by rw[zGu];exact zRf
theorem zSK {a b:List UInt8}{q:EqK}:zAB q .neq (str a) (str b)=some (.bool (!decide (a=b))):=by rw[zGu];exact zYD
theorem ix0 {q:Nat}:ixA 3 1 (Ptr q 0) (.int .i64 0)=some (Ptr q 0):=zSy (i:=0) (by omega)
def zAff:List (List UInt8):=[[61],[33,61],[60],[60,61],[62],[62,61],[94]]
def vp0 (v:Ver):Int:=v.p.getD 0 0
def vp1 (v:Ver):Int:=v.p.getD 1 0
def zYQ (op:List UInt8)(w v:Ver):Bool :=
 bif decide (op=[61]) then !ltV v w && !ltV w v else
 bif decide (op=[33,61]) then ltV v w || ltV w v else
 bif decide (op=[60]) then ltV v w else
 bif decide (op=[60,61]) then !ltV w v else
 bif decide (op=[62]) then ltV w v else
 bif decide (op=[62,61]) then !ltV v w else
 bif decide (op=[94]) then !ltV v w&&(vp0 v == vp0 w)&&(vp0 w != 0 || vp1 v == vp1 w) else true
theorem _root_.Go.X.L0_i {body:(zAw->Prop)->zAw->Prop}{H:zAw}(I:zAw->Prop)(μ:zAw->Nat)(h0:I H)
  (hs:∀ h,I h->∀ k:zAw->Prop,(∀ h',I h'->μ h'<μ h->k h')->body k h):L0 body H:=by
 refine⟨λvs h=>vs=[]/\I h,λ_ h=>μ h,⟨rfl,h0⟩,?_⟩
 rintro vs h _ ⟨rfl,hI⟩
 exact hs h hI _ λh' hI' hm=>⟨⟨rfl,hI'⟩,hm⟩
theorem zB0 {n:Nat}(h:n<=1099511627776):zAB .no .add (.int .i64 (n:Nat)) (.int .i64 1)=some (.int .i64 ((n+1:Nat):Int)):=by
 rw[zAJ];simp only[zC5];rw[zCc (by omega) (by omega)];rfl
theorem zAfg {n:Nat}:zAB .no .lss (.int .i64 (n:Nat)) (.int .i64 0)=some (.bool false):=by
 rw[zAJ];simp only[zC5];rw[decide_eq_false (by omega)]
theorem zAh6:zAB .no .lss (.int .i64 (-1)) (.int .i64 0)=some (.bool true):=rfl
theorem zAfh {n:Nat}:zAB .no .geq (.int .i64 (n:Nat)) (.int .i64 0)=some (.bool true):=by
 rw[zAJ];simp only[zC5];rw[decide_eq_true (by omega)]
theorem zXs {H:zAw}{l:List UInt8}{x:UInt8}:zAz prg zDh [str l,.int .u8 x.toNat] H λu H'=>u = .int .i64 (Lib.indexByte l x)/\H=H':=by
 apply zEX
 unfold zEs
 intro w hw
 refine⟨_,w,by rw[zNJ];exact Lib.run_indexByteString _ _ w,zJK.rfl' w,?_,hw.symm⟩
 simp
theorem zZ3 {H:zAw}{l:List UInt8}{c:UInt8}:zAz prg zEb [str l,str [c]] H λu H'=>u = .int .i64 (Lib.indexByte l c)/\H=H':=by
 apply zJf
 unfold zHd
 have e1:zMd (str [c])=some (.int .i64 1):=rfl
 have e2:zAB .no .eql (.int .i64 1) (.int .i64 0)=some (.bool false):=rfl
 have e3:zAB .no .eql (.int .i64 1) (.int .i64 1)=some (.bool true):=rfl
 have e4:ixT (str [c]) (.int .i64 0)=some (.int .u8 c.toNat):=zLT (i:=0) rfl
 have e5:=λq=>zDN (q:=q) (a:=[c]) (b:=l)
 cases hx:decide ([c]=l)<;>simp only[e1,e2,e3,e4,e5,hx,zBa,zAf,zAe,zAO,zAU,zAv,zAl,zAa,if_true,if_false,zAb,zAc,decide_true,decide_false,reduceCtorEq,zBW,zEJ,zEK,zEG,zEH,zEI,zBm,zA8]
 ·exact zAI zXs λu h hR=>hR
 ·have:l=[c]:=(of_decide_eq_true hx).symm
  subst this
  refine⟨?_,by trivial⟩
  simp[Lib.indexByte]
theorem zAfi {H:zAw}{l:List UInt8}{c:UInt8}:zAz prg zMM [str l,str [c]] H λu H'=>u = .int .i64 (Lib.indexByte l c)/\H=H':=by
 apply zPs
 unfold zPc
 exact zAI zZ3 λu h hR=>hR
theorem zAh7 {l:List UInt8}{o:Nat}(h:o<=l.length):slT (str l) none (some (.int .i64 (o:Nat)))=some (str (l.take o)):=by
 have:=zSz (l:=l) (lo:=0) (hi:=o) (a:=none) (b:=some (.int .i64 (o:Nat))) (zAA _) h rfl (by simp[bnd,h])
 rwa [zCe]at this
theorem zWh {l:List UInt8}{o:Nat}(h:o<=l.length):slT (str l) (some (.int .i64 (o:Nat))) none=some (str (l.drop o)):=by
 have:=zSz (l:=l) (lo:=o) (hi:=l.length) (a:=some (.int .i64 (o:Nat))) (b:=none) h (zAi _) (by simp[bnd,h]) rfl
 rwa [zBA]at this
theorem zAj0 {H:zAw}{l:List UInt8}{c:UInt8}(hl:l.length<=1099511627776):zAz prg zF1 [str l,str [c]] H λu H'=>(∃ b:Bool,u = .tuple #[str (zWe c l),str (zYk c l),.bool b])/\H=H':=by
 apply zJ8
 unfold zH3
 refine zAI zZ3 ?_
 rintro _ _ ⟨rfl,rfl⟩
 rcases zUe l c with he|⟨o,he⟩
 ·rw[he]
  have e1:zAB .no .geq (.int .i64 (-1)) (.int .i64 0)=some (.bool false):=rfl
  obtain⟨h1,h2⟩:=zZX (zVo he)
  simp only[e1,zBa,zAf,zAe,zAO,zAU,zAv,zAl,zAa,if_true,if_false,zAb,zAc,decide_true,decide_false,reduceCtorEq,zBW,zEJ,zEK,zEG,zEH,zEI,zBm,zA8]
  exact⟨⟨false,by rw[h1,h2]⟩,by trivial⟩
 ·rw[he]
  obtain⟨hlt,hni,hsp⟩:=zVp he
  have e2:zMd (str [c])=some (.int .i64 1):=rfl
  have e4:=zB0 (n:=o) (by omega)
  have e5:=zAfh (n:=o)
  simp only[e5,e2,e4,zAh7 (Nat.le_of_lt hlt),zWh (show o+1<=l.length by omega),zBa,zAf,zAe,zAO,zAU,zAv,zAl,zAa,if_true,if_false,zAb,zAc,decide_true,decide_false,reduceCtorEq,zBW,zEJ,zEK,zEG,zEH,zEI,zBm,zA8]
  refine⟨⟨true,?_⟩,by trivial⟩
  have:=zZY (c:=c) (b:=l.drop (o+1)) hni
  rw[<- hsp]at this
  rw[this.1,this.2]
theorem zAlF {H:zAw}{l:List UInt8}{c:UInt8}(hl:l.length<=1099511627776):zAz prg zOJ [str l,str [c]] H λu H'=>(∃ b:Bool,u = .tuple #[str (zWe c l),str (zYk c l),.bool b])/\H=H':=by
 apply zQN
 unfold zQY
 refine zAI (zAj0 hl) ?_
 rintro _ _ ⟨⟨b,rfl⟩,rfl⟩
 simp only[zBa,zAf,zAe,zAO,zAU,zAv,zAl,zAa,if_true,if_false,zAb,zAc,decide_true,decide_false,reduceCtorEq,zBW,zEJ,zEK,zEG,zEH,zEI,zBm,zA8]
 exact⟨⟨b,rfl⟩,by trivial⟩
theorem zUg {H:zAw}{l p:List UInt8}:zAz prg zEA [str l,str p] H λu H'=>u = .bool (decide (p.length<=l.length)&&decide (l.take p.length=p))/\H=H':=by
 apply zH4
 unfold zGf
 have e0:zAB .no .geq (.int .i64 (l.length:Nat)) (.int .i64 (p.length:Nat))=some (.bool (decide (p.length<=l.length))):=by
  rw[zAJ];simp only[zC5];congr 2;rw[decide_eq_decide];omega
 simp only[zFb,zAa,e0]
 cases hx:decide (p.length<=l.length)<;>simp only[zBa,zAf,zAe,zAO,zAU,zAv,zAl,zAa,if_true,if_false,zAb,zAc,decide_true,decide_false,reduceCtorEq,zBW,zEJ,zEK,zEG,zEH,zEI,zBm,zA8,zA1]
 ·trivial
 ·have:=of_decide_eq_true hx
  simp only[zAh7 this,zDN,zBa,zAf,zAe,zAO,zAU,zAv,zAl,zAa,if_true,if_false,zAb,zAc,decide_true,decide_false,reduceCtorEq,zBW,zEJ,zEK,zEG,zEH,zEI,zBm,zA8,zBf]
  trivial
structure zRo (qs qp qn:Nat)(l:List UInt8)(c:UInt8)(h:zAw):Prop where
 s:At h qs [str l]
 p:At h qp [str [c]]
 n:At h qn [.int .i64 0]
 ne:qs≠qp/\qs≠qn
theorem zVq {qs qp qn:Nat}{l:List UInt8}{c:UInt8}(hl:l.length<=1099511627776) :
  zAmu prg (.func (.func zDQ) #[] #[Ptr qp 0,Ptr qs 0,Ptr qn 0]) ((zDX c l).map λx=>[str x]) (λb=>b=qs\/b=qp\/b=qn) (zRo qs qp qn l c):=by
 intro yv h0 J E hst hJ hbody sJ sE
 refine⟨zDQ,#[],#[Ptr qp 0,Ptr qs 0,Ptr qn 0],rfl,by kernel_rfl,?_⟩
 show zAz prg zDQ [yv,Ptr qp 0,Ptr qs 0,Ptr qn 0] h0 _
 apply zMY
 unfold zLr
 have e1:zMd (str [c])=some (.int .i64 1):=rfl
 have e2:zAB .no .eql (.int .i64 1) (.int .i64 0)=some (.bool false):=rfl
 refine zAjl (λh=>h0=h) (λk hk=>?_) ?_
 ·have:=hst.p.ld (i:=0) rfl
  simp only[this,zAa,e1,e2,zAl,zAb,if_false]
  exact hk _ rfl
 rintro _ rfl
 have hn:((zDX c l).map λx=>[str x]).length=(zDX c l).length:=by simp
 rw[hn]
 let I:zAw->Prop:=λh=>∃ (pre:List (List UInt8)) (rest:List UInt8),zDX c l=pre++zDX c rest/\rest.length<=l.length/\zRo qs qp qn rest c h/\J pre.length h
 let fin:zAw->Prop:=λh=>∃ (pre:List (List UInt8)) (rest:List UInt8),zDX c l=pre++[rest]/\zRo qs qp qn rest c h/\J pre.length h
 refine zAjl fin (λk hk=>?_) ?_
 ·refine L0_i I (λh=>match ld1 h (Ptr qs 0) with|some (.string s)=>s.size|_=>0) ⟨[],l,rfl,zAi _,hst,hJ⟩ ?_
  rintro h ⟨pre,rest,hsp,hle,hs,hJ⟩ k2 hk2
  have d1:=hs.s.ld (i:=0) rfl
  have d2:=hs.p.ld (i:=0) rfl
  have d3:=hs.n.ld (i:=0) rfl
  simp only[d1,d2,zAa]
  refine zAI zAfi ?_
  rintro _ _ ⟨rfl,rfl⟩
  rcases zUe rest c with he|⟨o,he⟩
  ·rw[he,zAh6,zAa,zAl,if_pos rfl]
   refine hk _ ⟨pre,rest,?_,hs,hJ⟩
   rw[hsp,zRm (zVo he)]
  ·obtain⟨hlt,hni,hre⟩:=zVp he
   have hsr:zDX c rest=rest.take o::zDX c (rest.drop (o+1)):=by
    conv=>lhs;rw[hre]
    exact zOX hni
   have e3:zAB .no .add (.int .i64 (o:Nat)) (.int .i64 0)=some (.int .i64 (o:Nat)):=by
    rw[zAJ];simp only[zC5];rw[zCc (by omega) (by omega)];simp
   rw[he,zAfg,zAa,zAl,if_neg (by decide)]
   simp only[d1,d3,zAa,e3,zAh7 (Nat.le_of_lt hlt)]
   have hget:((zDX c l).map λx=>[str x])[pre.length]? = some [str (rest.take o)]:=by
    rw[zAr,hsp,hsr,zBc (zAi _),Nat.sub_self];rfl
   refine(hbody _ _ _ hget hJ).mono ?_
   rintro v h' ⟨hsz,hS,hv⟩
   have keepA:∀ {q cs},(q=qs\/q=qp\/q=qn)->At h q cs->At h' q cs:=λ{q cs} hq ⟨T,a⟩=>⟨T,by rw[hS q hq (lt_of a)];exact a⟩
   have s':=keepA (.inl rfl) hs.s
   have p':=keepA (.inr (.inl rfl)) hs.p
   have n':=keepA (.inr (.inr rfl)) hs.n
   rcases hv with ⟨rfl,hJ'⟩|⟨rfl,hE⟩
   ·have d1':=s'.ld (i:=0) rfl
    have d2':=p'.ld (i:=0) rfl
    have e4:=zB0 (n:=o) (by omega)
    obtain⟨h2,hst2,a2,k2'⟩:=s'.st1 (i:=0) (v:=str (rest.drop (o+1))) (by simp) rfl
    simp only[zBa,zAf,zAa,zAl,zAb,if_false,d1',d2',e1,e4,zWh (show o+1<=rest.length by omega),hst2,zAV]
    refine hk2 _ ⟨pre++[rest.take o],rest.drop (o+1),by rw[hsp,hsr];simp,by simp;omega,⟨a2,p'.keep k2' (λe=>hs.ne.1 e.symm),n'.keep k2' (λe=>hs.ne.2 e.symm),hs.ne⟩,?_⟩ ?_
    ·rw[zAt]
     exact sJ _ _ _ hJ' (k2'.mono λb _ hb => .inl hb)
    ·have:=a2.ld (i:=0) (v:=str (rest.drop (o+1))) rfl
     rw[this,d1]
     simp only[zJe,zCY];omega
   ·simp only[zBa,zAe,zAa,zAl,if_true]
    exact .inr hE
 ·rintro h ⟨pre,rest,hsp,hs,hJ⟩
  have d1:=hs.s.ld (i:=0) rfl
  rw[d1,zAa]
  have hget:((zDX c l).map λx=>[str x])[pre.length]? = some [str rest]:=by
   rw[zAr,hsp,zBc (zAi _),Nat.sub_self];rfl
  refine(hbody _ _ _ hget hJ).mono ?_
  rintro v h' ⟨hsz,hS,hv⟩
  rcases hv with ⟨rfl,hJ'⟩|⟨rfl,hE⟩
  ·left
   rw[hsp,zAt];exact hJ'
  ·exact .inr hE
theorem zVr {H:zAw}{l:List UInt8}{c:UInt8}:zAz prg zHv [str l,str [c]] H λu H' =>
  ∃ qs qp qn,u = .func (.func zDQ) #[] #[Ptr qp 0,Ptr qs 0,Ptr qn 0]/\zRo qs qp qn l c H'/\(∀ b,(b=qs\/b=qp\/b=qn)->H.size<=b/\b<H'.size)/\Keep zAK H H':=by
 apply zNX
 unfold zMW
 refine zAI (R:=λu H'=>∃ qs qp qn,u = .func (.func zDQ) #[] #[Ptr qp 0,Ptr qs 0,Ptr qn 0]/\zRo qs qp qn l c H'/\(∀ b,(b=qs\/b=qp\/b=qn)->H.size<=b/\b<H'.size)/\Keep zAK H H') ?_ λu h hR=>hR
 apply zNY
 unfold zMX
 have c1:Value.cells (str l)=[str l].toArray:=rfl
 have c2:Value.cells (str [c])=[str [c]].toArray:=rfl
 have c3:Value.cells (.int .i64 0)=[Value.int .i64 0].toArray:=rfl
 simp only[zBb,c1,c2,c3]
 generalize hH1:H.push (.cells [str l].toArray zBJ (0,0))=H1
 have k1:Keep zAK H H1:=by rw[<- hH1];exact Keep.push
 have a1:At H1 H.size [str l]:=by rw[<- hH1];exact At.push
 have s1:H1.size=H.size+1:=by rw[<- hH1];simp
 generalize hH2:H1.push (.cells [str [c]].toArray zBJ (0,0))=H2
 have k2:Keep zAK H1 H2:=by rw[<- hH2];exact Keep.push
 have a2:At H2 H1.size [str [c]]:=by rw[<- hH2];exact At.push
 have s2:H2.size=H1.size+1:=by rw[<- hH2];simp
 generalize hH3:H2.push (.cells [Value.int .i64 0].toArray zHL (0,0))=H3
 have k3:Keep zAK H2 H3:=by rw[<- hH3];exact Keep.push
 have a3:At H3 H2.size [.int .i64 0]:=by rw[<- hH3];exact At.push
 have s3:H3.size=H2.size+1:=by rw[<- hH3];simp
 refine⟨H.size,H1.size,H2.size,rfl,⟨(a1.keep k2 id).keep k3 id,a2.keep k3 id,a3,by omega,by omega⟩,?_,k1.trans (k2.trans k3)⟩
 intro b hb
 omega
end Go.Proofs.YticdfkoncnnmmaaGreatDoor
