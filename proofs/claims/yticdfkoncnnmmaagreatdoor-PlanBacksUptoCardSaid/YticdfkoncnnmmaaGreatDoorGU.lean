import GoSem.Op.String
import Derived.Test.YticdfkoncnnmmaaGreatDoorGI
import Derived.Lib.IndexLaws
import Derived.Test.YticdfkoncnnmmaaGreatDoorGH
import Derived.Test.YticdfkoncnnmmaaGreatDoorGE
set_option linter.unusedSimpArgs false
set_option linter.unusedVariables false
set_option linter.unusedSectionVars false
set_option maxRecDepth 100000
namespace Go.X.Diff
abbrev less (a b:List UInt8):Bool:=Op.bytesLess a b
theorem zRe:∀ a:List UInt8,less a a=false
 | []=>rfl
 | a::l=>by
  have h:=zRe l
  simp only[less,Op.bytesLess]at h ⊢
  rw[h];simp
theorem zSO:∀ {a b c:List UInt8},less a b=true->less b c=true->less a c=true
 | _,[],_,h,_=>by cases ‹List UInt8› <;> simp[less,Op.bytesLess]at h
 | _,_::_,[],_,h=>by simp[less,Op.bytesLess]at h
 | [],_::_,_::_,_,_=>rfl
 | a::x,b::y,c::z,h1,h2=>by
  simp only[less,Op.bytesLess,zB9,zAk,decide_eq_true_eq,beq_iff_eq]at h1 h2 ⊢
  rcases h1 with h1|⟨rfl,h1⟩
  ·rcases h2 with h2|⟨rfl,h2⟩
   ·exact .inl (UInt8.lt_trans h1 h2)
   ·exact .inl h1
  ·rcases h2 with h2|⟨rfl,h2⟩
   ·exact .inl h2
   ·exact .inr ⟨rfl,zSO h1 h2⟩
theorem zQn:∀ {a b:List UInt8},less a b=false->less b a=false->a=b
 | [],[],_,_=>rfl
 | [],_::_,h,_=>by simp[less,Op.bytesLess]at h
 | _::_,[],_,h=>by simp[less,Op.bytesLess]at h
 | a::x,b::y,h1,h2=>by
  simp only[less,Op.bytesLess,Bool.or_eq_false_iff,Bool.and_eq_false_iff,decide_eq_false_iff_not,beq_eq_false_iff_ne]at h1 h2
  have hab:a=b:=by
   rcases UInt8.lt_or_eq_of_le (UInt8.not_lt.1 h2.1) with h|h
   ·exact absurd h h1.1
   ·exact h
  subst hab
  have e1:=h1.2.resolve_left λh=>h rfl
  have e2:=h2.2.resolve_left λh=>h rfl
  rw[zQn e1 e2]
theorem zAcU {a b:List UInt8}(h:less a b=true):a≠b:=by
 rintro rfl;rw[zRe]at h;cases h
theorem zAbh {a b:List UInt8}(h:less a b=true):less b a=false:=by
 cases hb:less b a with
 | false=>rfl
 | true=>have:=zSO h hb;rw[zRe]at this;cases this
structure zAlU where
 name:List UInt8
 fr:List UInt8
 to:List UInt8
def zAlU.turn (s:zAlU):zAlU:=⟨s.name,s.to,s.fr⟩
section
variable {α:Type} [DecidableEq α] (nm sh:α->List UInt8)
def Ris (l:List α):Prop:=l.Pairwise λx y=>less (nm x) (nm y)=true
variable {nm sh}
theorem Ris.cons {x:α}{l:List α}(h:Ris nm (x::l)):(∀ y∈l,less (nm x) (nm y)=true)/\Ris nm l:=zCg.1 h
end
end Go.X.Diff
namespace Go.Proofs.YticdfkoncnnmmaaGreatDoor
open Go.X Go.X.Diff
structure zTx {α:Type}(c:α->α->Int):Prop where
 three:∀ a b,c a b = -1\/c a b=0\/c a b=1
 turn:∀ a b,c b a = -(c a b)
 zero:∀ a b,c a b=0↔a=b
 trans:∀ {a b d},c a b<=0->c b d<=0->c a d<=0
namespace zTx
variable {α β:Type} {c:α->α->Int} {e:β->β->Int}
theorem self (h:zTx c)(a:α):c a a=0:=(h.zero a a).2 rfl
theorem both (h:zTx c){a b:α}(h1:c a b<=0)(h2:c b a<=0):a=b:=by
 have:=h.turn a b;exact(h.zero a b).1 (by omega)
theorem chain (h:zTx c){a b d:α}(h1:c a b<=0)(h2:c b d<=0):c a d=0↔(a=b/\b=d):=by
 constructor
 ·intro h0
  obtain rfl:=(h.zero a d).1 h0
  have:=h.both h1 h2
  exact⟨this,this.symm⟩
 ·rintro⟨rfl,rfl⟩;exact h.self _
theorem lt_le (h:zTx c){a b d:α}(h1:c a b<0)(h2:c b d<=0):c a d<0:=by
 have h3:=h.trans (Int.le_of_lt h1) h2
 have h4:=(h.chain (Int.le_of_lt h1) h2)
 have:c a d≠0:=λh0=>by
  obtain⟨rfl,_⟩:=h4.1 h0
  rw[h.self]at h1;omega
 omega
def lex (c:α->α->Int)(e:β->β->Int)(a b:α×β):Int:=if c a.1 b.1≠0 then c a.1 b.1 else e a.2 b.2
theorem lex_ord (h:zTx c)(k:zTx e):zTx (lex c e) where
 three a b:=by
  unfold lex;split
  ·exact h.three _ _
  ·exact k.three _ _
 turn a b:=by
  unfold lex
  have h1:=h.turn a.1 b.1
  have h2:=k.turn a.2 b.2
  split<;>split<;>omega
 zero a b:=by
  unfold lex
  have h1:=h.zero a.1 b.1
  have h2:=k.zero a.2 b.2
  split
  ·rename_i hn
   constructor
   ·intro h0;exact absurd h0 hn
   ·rintro rfl;exact absurd (h1.2 rfl) hn
  ·rename_i hn
   have:=h1.1 (Classical.not_not.1 hn)
   rw[h2]
   exact⟨λh=>Prod.ext this h,λh=>by rw[h]⟩
 trans {a b d} h1 h2:=by
  unfold lex at h1 h2 ⊢
  split at h1
  ·rename_i n1
   split at h2
   ·rename_i n2
    have:=h.lt_le (a:=a.1) (b:=b.1) (d:=d.1) (by omega) h2
    rw[if_pos (by omega)];omega
   ·rename_i n2
    have e1:=(h.zero _ _).1 (Classical.not_not.1 n2)
    rw[<- e1,if_pos n1];exact h1
  ·rename_i n1
   have e1:=(h.zero _ _).1 (Classical.not_not.1 n1)
   rw[e1]
   split at h2
   ·rename_i n2
    rw[if_pos n2];exact h2
   ·rename_i n2
    rw[if_neg n2];exact k.trans h1 h2
theorem pull {f:β->α}(h:zTx c)(hf:∀ a b,f a=f b->a=b):zTx λa b=>c (f a) (f b) where
 three a b:=h.three _ _
 turn a b:=h.turn _ _
 zero a b:=by rw[h.zero];exact⟨hf a b,λh=>by rw[h]⟩
 trans h1 h2:=h.trans h1 h2
end zTx
def zAbi (a b:Int):Int:=if a<b then -1 else if b<a then 1 else 0
theorem zLb:zTx zAbi where
 three a b:=by
  unfold zAbi
  split
  ·simp
  split<;>simp
 turn a b:=by unfold zAbi;split<;>split<;>first|omega|(split<;>omega)
 zero a b:=by
  unfold zAbi
  split
  ·omega
  split<;>omega
 trans {a b d} h1 h2:=by
  unfold zAbi at *
  split at h1<;>split at h2<;>split<;>first|omega|(split<;>split at h1<;>split at h2<;>omega)|(split<;>split at h1<;>omega)|(split<;>split at h2<;>omega)|(split<;>omega)
def zJH (a b:List UInt8):Int:=if less a b=true then -1 else if less b a=true then 1 else 0
theorem zFb:zTx zJH where
 three a b:=by
  unfold zJH
  split
  ·simp
  split<;>simp
 turn a b:=by
  unfold zJH
  by_cases h1:less a b=true
  ·simp[h1,zAbh h1]
  ·rw[if_neg h1]
   by_cases h2:less b a=true
   ·simp[h1,h2]
   ·rw[if_neg h2,if_neg h2,if_neg h1];rfl
 zero a b:=by
  unfold zJH
  by_cases h1:less a b=true
  ·rw[if_pos h1];exact⟨λh=>by omega,λh=>absurd h (zAcU h1)⟩
  ·rw[if_neg h1]
   by_cases h2:less b a=true
   ·rw[if_pos h2];exact⟨λh=>by omega,λh=>absurd h.symm (zAcU h2)⟩
   ·rw[if_neg h2];exact⟨λ_=>zQn (by simpa using h1) (by simpa using h2),λ_=>rfl⟩
 trans {a b d} h1 h2:=by
  unfold zJH at *
  by_cases a1:less a b=true
  ·by_cases a2:less b d=true
   ·rw[if_pos (zSO a1 a2)];omega
   ·rw[if_neg a2]at h2
    by_cases a3:less d b=true
    ·rw[if_pos a3]at h2;omega
    ·have:=zQn (by simpa using a2) (by simpa using a3)
     rw[<- this,if_pos a1];omega
  ·rw[if_neg a1]at h1
   by_cases a3:less b a=true
   ·rw[if_pos a3]at h1;omega
   ·have:=zQn (by simpa using a1) (by simpa using a3)
    rw[this];exact h2
def zVx:List Int->List Int->Int
 | [],[]=>0
 | [],_::_ => -1
 | _::_,[]=>1
 | a::x,b::y=>if zAbi a b≠0 then zAbi a b else zVx x y
theorem zM2 {a b:Int}{x y:List Int}:zVx (a::x) (b::y)=if zAbi a b≠0 then zAbi a b else zVx x y:=rfl
theorem zZ5:zTx zVx where
 three:=by
  intro a
  induction a with
  | nil=>intro b;cases b<;>simp[zVx]
  | cons a x ih =>
   intro b
   cases b with
   | nil=>simp[zVx]
   | cons b y =>
    rw[zM2]
    split
    ·exact zLb.three _ _
    exact ih y
 turn:=by
  intro a
  induction a with
  | nil=>intro b;cases b<;>simp[zVx]
  | cons a x ih =>
   intro b
   cases b with
   | nil=>simp[zVx]
   | cons b y =>
    rw[zM2,zM2]
    have h1:=zLb.turn a b
    have h2:=ih y
    split<;>split<;>omega
 zero:=by
  intro a
  induction a with
  | nil=>intro b;cases b<;>simp[zVx]
  | cons a x ih =>
   intro b
   cases b with
   | nil=>simp[zVx]
   | cons b y =>
    rw[zM2]
    have h1:=zLb.zero a b
    split
    ·rename_i hn
     constructor
     ·intro h0;exact absurd h0 hn
     ·intro h;injection h with e1 e2;exact absurd (h1.2 e1) hn
    ·rename_i hn
     have:=h1.1 (Classical.not_not.1 hn)
     rw[ih y,this];simp
 trans:=by
  intro a
  induction a with
  | nil=>intro b d h1 h2;cases b<;>cases d<;>simp[zVx]at *
  | cons a x ih =>
   intro b d h1 h2
   cases b with
   | nil=>simp[zVx]at h1
   | cons b y =>
    cases d with
    | nil=>simp[zVx]at h2
    | cons d z =>
     rw[zM2]at *
     split at h1
     ·rename_i n1
      split at h2
      ·rename_i n2
       have:=zLb.lt_le (a:=a) (b:=b) (d:=d) (by omega) h2
       rw[if_pos (by omega)];omega
      ·rename_i n2
       have e1:=(zLb.zero b d).1 (Classical.not_not.1 n2)
       rw[<- e1,if_pos n1];exact h1
     ·rename_i n1
      have e1:=(zLb.zero a b).1 (Classical.not_not.1 n1)
      rw[e1]
      split at h2
      ·rename_i n2
       rw[if_pos n2];exact h2
      ·rename_i n2
       rw[if_neg n2];exact ih h1 h2
def zAj9 (a b:List UInt8):Int:=if decide (a=[]) != decide (b=[]) then zJH b a else zJH a b
def zAlt (a:List UInt8):Int:=if a=[] then 1 else 0
theorem zZ6 {a:List UInt8}(h:a≠[]):zJH [] a = -1/\zJH a []=1:=by
 cases a with
 | nil=>exact absurd rfl h
 | cons x l=>exact⟨rfl,rfl⟩
theorem zAff:zAj9=λa b=>zTx.lex zAbi zJH (zAlt a,a) (zAlt b,b):=by
 funext a b
 unfold zAj9 zTx.lex zAlt
 by_cases ha:a=[]
 ·by_cases hb:b=[]
  ·subst ha hb;rfl
  ·subst ha
   simp only[decide_true,if_true,decide_eq_false hb,if_neg hb]
   rw[(zZ6 hb).2];rfl
 ·by_cases hb:b=[]
  ·subst hb
   simp only[decide_true,if_true,decide_eq_false ha,if_neg ha]
   rw[(zZ6 ha).1];rfl
  ·simp only[decide_eq_false ha,if_neg ha,decide_eq_false hb,if_neg hb];rfl
theorem zAfg:zTx zAj9:=by
 rw[zAff]
 exact(zTx.lex_ord zLb zFb).pull (f:=λa=>(zAlt a,a)) λa b h=>congrArg Prod.snd h
def zAet (v w:Ver):Int:=if zVx v.p w.p≠0 then zVx v.p w.p else zAj9 v.pre w.pre
theorem zQo:zTx zAet :=
 (zTx.lex_ord zZ5 zAfg).pull (f:=λv:Ver=>(v.p,v.pre)) λa b h=>by
  cases a;cases b;simp only[Prod.mk.injEq]at h;simp[h.1,h.2]
def ltV (v w:Ver):Bool:=decide (zAet v w<0)
end Go.Proofs.YticdfkoncnnmmaaGreatDoor
namespace Go.Proofs.YticdfkoncnnmmaaGreatDoor
open Go.X Go.X.Diff
def zWo (c:UInt8)(l:List UInt8):List UInt8:=l.takeWhile (· != c)
def zYu (c:UInt8)(l:List UInt8):List UInt8:=(l.dropWhile (· != c)).drop 1
def zD0 (c:UInt8):List UInt8->List (List UInt8)
 | []=>[[]]
 | x::l=>if x=c then []::zD0 c l else match zD0 c l with
  | []=>[[x]]
  | h::t=>(x::h)::t
theorem zRf {c:UInt8}:∀ {l:List UInt8},c∉l->zD0 c l=[l]
 | [],_=>rfl
 | x::l,h=>by
  simp only[zAs,not_or]at h
  rw[zD0,if_neg (λe=>h.1 e.symm),zRf h.2]
theorem zOO {c:UInt8}{b:List UInt8}:∀ {a:List UInt8},c∉a->zD0 c (a++c::b)=a::zD0 c b
 | [],_=>by rw[zAY,zD0,if_pos rfl]
 | x::l,h=>by
  simp only[zAs,not_or]at h
  rw[zCA,zD0,if_neg (λe=>h.1 e.symm),zOO h.2]
theorem zZ7 {c:UInt8}{l:List UInt8}(h:c∉l):zWo c l=l/\zYu c l=[]:=by
 have hp:∀ x∈l,(x != c)=true:=λx hx=>by simp only[bne_iff_ne];rintro rfl;exact h hx
 unfold zWo zYu
 have h1:=List.takeWhile_append_of_pos (l₂:=[]) hp
 have h2:=List.dropWhile_append_of_pos (l₂:=[]) hp
 simp only[zAP,List.takeWhile_nil,List.dropWhile_nil]at h1 h2
 rw[h1,h2];exact⟨rfl,rfl⟩
theorem zZ8 {c:UInt8}{a b:List UInt8}(h:c∉a):zWo c (a++c::b)=a/\zYu c (a++c::b)=b:=by
 have hp:∀ x∈a,(x != c)=true:=λx hx=>by simp only[bne_iff_ne];rintro rfl;exact h hx
 unfold zWo zYu
 rw[List.takeWhile_append_of_pos hp,List.dropWhile_append_of_pos hp];simp
theorem zVy {l:List UInt8}{c:UInt8}(h:Lib.indexByte l c = -1):c∉l:=λhm=>by
 obtain⟨k,hk⟩:=List.getElem?_of_mem hm
 exact Lib.indexByte_none h k hk
theorem zVz {l:List UInt8}{c:UInt8}{o:Nat}(h:Lib.indexByte l c=o):o<l.length/\c∉l.take o/\l=l.take o++c::l.drop (o+1):=by
 obtain⟨h1,h2⟩:=Lib.indexByte_some h
 obtain⟨hlt,he⟩:=zAV.1 h1
 refine⟨hlt,λhm=>?_,?_⟩
 ·obtain⟨k,hk⟩:=List.getElem?_of_mem hm
  rw[zCr]at hk
  split at hk
  ·rename_i hlt;exact h2 k hlt hk
  ·cases hk
 ·conv=>lhs;rw[<- zBl o l]
  rw[zBU hlt,he]
theorem zUo (l:List UInt8)(c:UInt8):Lib.indexByte l c = -1\/∃ o:Nat,Lib.indexByte l c=o:=by
 have:=Lib.indexByte_ge l c
 by_cases h:Lib.indexByte l c = -1
 ·exact .inl h
 ·exact .inr ⟨(Lib.indexByte l c).toNat,by omega⟩
theorem zRg (n:Nat):∀ x∈zHj n,48<=x.toNat/\x.toNat<=57:=by
 induction n using Nat.strongRecOn with
 | ind n ih =>
  intro x hx
  have hd:∀ m,m<10->(zDB m).toNat=48+m:=λm hm=>by unfold zDB;rw[UInt8.toNat_ofNat'];omega
  rw[zHj]at hx
  split at hx
  ·obtain rfl:x=zDB n:=by simpa using hx
   rw[hd _ (by omega)];omega
  ·rcases zAp.1 hx with hx|hx
   ·exact ih _ (by omega) x hx
   ·obtain rfl:x=zDB (n % 10):=by simpa using hx
    rw[hd _ (by omega)];omega
theorem zAie (n:Nat):zHj n≠[]:=by rw[zHj];split<;>simp
def zAbV (l:List UInt8):Nat:=l.foldl (λn c=>n*10+(c.toNat-48)) 0
theorem zXG {l:List UInt8}{c:UInt8}:zAbV (l++[c])=zAbV l*10+(c.toNat-48):=by simp[zAbV]
theorem zWp (n:Nat):zAbV (zHj n)=n:=by
 induction n using Nat.strongRecOn with
 | ind n ih =>
  have hd:∀ m,m<10->(zDB m).toNat=48+m:=λm hm=>by unfold zDB;rw[UInt8.toNat_ofNat'];omega
  rw[zHj]
  split
  ·show 0*10+((zDB n).toNat-48)=n
   rw[hd _ (by omega)];omega
  ·rw[zXG,ih _ (by omega),hd _ (by omega)];omega
def zWq (l:List UInt8)(n:Int):Prop:=∀ m:Nat,m<=999999->l=zHj m->n=m
structure zAmV (s:List UInt8)(v:Ver):Prop where
 p3:v.p.length=3
 pre:v.pre=zYu 45 s
 parts:∀ (i:Nat) (l:List UInt8),(zD0 46 (zWo 45 s))[i]? = some l->∃ n,v.p[i]? = some n/\zWq l n
theorem zOm {v:Ver}(hp:v.p.length=3)(hok:zG5 v=true):zD0 46 (zWo 45 (zHO v))=v.p.map (λn=>zHj n.toNat)/\zYu 45 (zHO v)=v.pre:=by
 obtain⟨p,pre⟩:=v
 have hnot:∀ (n:Nat) (c:UInt8),c.toNat<48->c∉zHj n:=λn c hc hm=>by have:=zRg n c hm;omega
 match p,hp with
 | [a,b,c],_ =>
  unfold zHO
  rw[if_pos hok]
  simp only[zQK,zA0,List.map_nil,zA5,zCp,zAP]
  have h45:(45:UInt8)∉zHj a.toNat++([46]++zHj b.toNat++([46]++zHj c.toNat)):=by
   simp only[zAp,zAD,not_or]
   exact⟨hnot _ _ (by decide),⟨by decide,hnot _ _ (by decide)⟩,by decide,hnot _ _ (by decide)⟩
  have hs:zD0 46 (zHj a.toNat++([46]++zHj b.toNat++([46]++zHj c.toNat)))=[zHj a.toNat,zHj b.toNat,zHj c.toNat]:=by
   rw[show zHj a.toNat++([46]++zHj b.toNat++([46]++zHj c.toNat))=zHj a.toNat++46::(zHj b.toNat++46::zHj c.toNat) by simp]
   rw[zOO (hnot _ _ (by decide)),zOO (hnot _ _ (by decide)),zRf (hnot _ _ (by decide))]
  split
  ·rename_i he
   rw[zAP]
   obtain⟨e1,e2⟩:=zZ7 h45
   rw[e1,e2];exact⟨hs,he.symm⟩
  ·obtain⟨e1,e2⟩:=zZ8 (b:=pre) h45
   rw[e1,e2];exact⟨hs,rfl⟩
theorem zAfh {v:Ver}(hp:v.p.length=3)(hok:zG5 v=true):zHO v≠[]:=by
 intro h
 have:=(zOm hp hok).1
 rw[h]at this
 have:=congrArg List.length this
 simp[zWo,zD0,hp]at this
theorem zZ9 {v w:Ver}{s:List UInt8}(hw:w.p.length=3)(hok:zG5 w=true)(hs:zHO w=s)(h:zAmV s v):v=w:=by
 obtain⟨e1,e2⟩:=zOm hw hok
 rw[hs]at e1 e2
 obtain⟨h1,h2,h3⟩:=h
 rw[e2]at h2
 rw[e1]at h3
 obtain⟨p,pre⟩:=v
 obtain⟨q,qre⟩:=w
 simp only at *
 match p,q,h1,hw with
 | [x,y,z],[a,b,c],_,_ =>
  have hall:[a,b,c].all zNB=true:=by unfold zG5 at hok;simp only[zAk]at hok;exact hok.1
  have ha:=zJw (zAw.1 hall a (by simp))
  have hb:=zJw (zAw.1 hall b (by simp))
  have hc:=zJw (zAw.1 hall c (by simp))
  obtain⟨n0,k0,r0⟩:=h3 0 _ rfl
  obtain⟨n1,k1,r1⟩:=h3 1 _ rfl
  obtain⟨n2,k2,r2⟩:=h3 2 _ rfl
  have r0:=r0 a.toNat (by omega) rfl
  have r1:=r1 b.toNat (by omega) rfl
  have r2:=r2 c.toNat (by omega) rfl
  simp at k0 k1 k2
  subst k0 k1 k2 h2
  congr 1
  congr 1
  ·omega
  ·congr 1
   ·omega
   ·congr 1;omega
theorem zAaa {v w:Ver}(hv:v.p.length=3)(hw:w.p.length=3)(ho:zG5 v=true)(ho2:zG5 w=true)(h:zHO v=zHO w):v=w:=by
 refine zZ9 (s:=zHO w) hw ho2 rfl ⟨hv,?_,?_⟩
 ·rw[<- h];exact(zOm hv ho).2.symm
 ·intro i l hl
  rw[<- h,(zOm hv ho).1,zAq]at hl
  obtain⟨n,hn,rfl⟩:=zBF.1 hl
  refine⟨n,hn,λm _ he=>?_⟩
  have:=congrArg zAbV he
  rw[zWp,zWp]at this
  have hall:v.p.all zNB=true:=by unfold zG5 at ho;simp only[zAk]at ho;exact ho.1
  have:=zJw (zAw.1 hall n (zAC hn))
  omega
theorem zU3 {v:Ver}(hp:v.p.length=3)(hok:zG5 v=true):(zD0 46 (zWo 45 (zHO v))).length=3:=by
 rw[(zOm hp hok).1,zAd,hp]
theorem zRZ {v:Ver}(hp:v.p.length=3):(zHO v).length<=40:=by
 unfold zHO
 split
 ·rename_i hok
  obtain⟨p,pre⟩:=v
  match p,hp with
  | [a,b,c],_ =>
   have hall:[a,b,c].all zNB=true:=by unfold zG5 at hok;simp only[zAk]at hok;exact hok.1
   have hpre:pre.length<=16:=by unfold zG5 zAcP at hok;simp only[zAk,decide_eq_true_eq]at hok;exact hok.2.1
   have ha:=zJw (zAw.1 hall a (by simp))
   have hb:=zJw (zAw.1 hall b (by simp))
   have hc:=zJw (zAw.1 hall c (by simp))
   have l1:=zOM (n:=a.toNat) (by omega)
   have l2:=zOM (n:=b.toNat) (by omega)
   have l3:=zOM (n:=c.toNat) (by omega)
   simp only[zQK,zA0,List.map_nil,zA5,zCp,zAP]
   split<;>simp<;>omega
 ·simp
theorem zBp {v:Value}{l:List (Option Value×Value)}{p:Prop}:Mre ((some v,v)::l) p↔Mre l p:=by simp
theorem zEL {a b:Value}:zE0 0 (.tuple #[a,b])=some a:=rfl
theorem zEM {a b:Value}:zE0 1 (.tuple #[a,b])=some b:=rfl
theorem zEI {a b c:Value}:zE0 0 (.tuple #[a,b,c])=some a:=rfl
theorem zEJ {a b c:Value}:zE0 1 (.tuple #[a,b,c])=some b:=rfl
theorem zEK {a b c:Value}:zE0 2 (.tuple #[a,b,c])=some c:=rfl
def At (h:zAx)(q:Nat)(cs:List Value):Prop:=∃ T,h[q]? = some (.cells cs.toArray T (0,0))
section
variable {h h' H:zAx} {q:Nat} {cs:List Value}
theorem At.push {T:TypeId}:At (h.push (.cells cs.toArray T (0,0))) h.size cs:=⟨T,zCj⟩
theorem At.keep {S:zA1}(a:At h q cs)(k:Keep S h h')(hs:¬ S q):At h' q cs:=by obtain⟨T,a⟩:=a;exact⟨T,k.at a hs⟩
theorem At.lt (a:At h q cs):q<h.size:=by obtain⟨T,a⟩:=a;exact lt_of a
theorem At.pt (a:At h q cs):Pt h q 0 cs:=by obtain⟨T,a⟩:=a;exact Pt.of a
theorem At.ldN (a:At h q cs){n:Nat}(hn:cs.length=n):ldN n h (Ptr q 0)=some (.agg cs.toArray):=a.pt.agg hn
theorem At.ld (a:At h q cs){i:Nat}{v:Value}(hi:cs[i]? = some v):ld1 h (Ptr q i)=some v:=by obtain⟨T,a⟩:=a;exact zSp a hi
theorem At.st (a:At h q cs){n:Nat}{ds:List Value}(hn:cs.length=n)(hd:ds.length=n)(h1:∀ c∈ds,c.oneCell'=true) :
  ∃ h',stN n h (Ptr q 0) (.agg ds.toArray)=some h'/\At h' q ds/\Keep (· = q) h h':=by
 obtain⟨T,a⟩:=a
 have:=zPF (n:=n) (o:=0) (A:=[]) (B:=cs) (C:=[]) (B':=ds) (by rw[zAY,zAP];exact a) rfl (by simp[hn]) hd (zVw h1)
 rw[zAY,zAP]at this
 exact⟨_,this,⟨T,zBm a⟩,Keep.set rfl⟩
theorem At.st1 (a:At h q cs){i:Nat}{v:Value}(hi:i<cs.length)(hv:v.oneCell'=true):∃ h',st1 h (Ptr q i) v=some h'/\At h' q (cs.set i v)/\Keep (· = q) h h':=by
 obtain⟨T,a⟩:=a
 exact⟨_,zYt a hi hv,⟨T,zBm a⟩,Keep.set rfl⟩
theorem _root_.Go.X.Keep.fresh {S:zA1}(k:Keep zAK H h)(k2:Keep S h h')(hs:∀ b,S b->H.size<=b):Keep zAK H h' :=
 ⟨zBh k.1 k2.1,λi hi _=>by rw[k2.2 i (zAM hi k.1) (λh=>by have:=hs i h;omega),k.2 i hi id]⟩
end
theorem Ver.cases3 {v:Ver}(h:v.wf):∃ a b c,v.p=[a,b,c]:=by
 obtain⟨p,pre⟩:=v
 have:=h.p3
 match p,this with
 | [a,b,c],_=>exact⟨a,b,c,rfl⟩
section
variable {h:zAx} {q:Nat} {v:Ver}
theorem zP0 (a:At h q (zEm v))(hv:v.wf):ldN 4 h (Ptr q 0)=some (.agg (zEm v).toArray):=a.ldN (zDH hv)
theorem zAcV (a:At h q (zEm v))(hv:v.wf):ld1 h (Ptr q 3)=some (str v.pre):=a.ld (by
 unfold zEm
 rw[zBe (by simp[hv.p3])]
 simp[hv.p3])
theorem zR0 (a:At h q (zEm v)){i:Nat}{x:Int}(hi:v.p[i]? = some x):ld1 h (Ptr q i)=some (.int .i64 x):=a.ld (by
 unfold zEm
 have hlt:=(zAV.1 hi).1
 rw[List.getElem?_append_left (by simpa using hlt)]
 exact zIb hi)
end
theorem zAnq:zBI prg zAO=some (zEm ⟨[0,0,0],[]⟩).toArray:=by kernel_rfl
def zEc:Ver:=⟨[0,0,0],[]⟩
theorem zG7:zEc.wf:=⟨rfl,by simp[zEc]⟩
theorem zAlV:zCM prg zAO []=some (.agg (zEm zEc).toArray):=by kernel_rfl
theorem zAcW:∀ {i:Nat} {p p2:List Int} {a b:Int},p.take i=p2.take i->p[i]? = some a->p2[i]? = some b->a≠b->zVx p p2=zAbi a b
 | 0,x::p,y::p2,a,b,_,h1,h2,hne=>by
  simp at h1 h2
  subst h1 h2
  rw[zM2,if_pos]
  rw[ne_eq,zLb.zero];exact hne
 | i+1,x::p,y::p2,a,b,ht,h1,h2,hne=>by
  simp only[zBX,List.cons.injEq]at ht
  obtain⟨rfl,ht⟩:=ht
  rw[zM2,if_neg (by rw[Classical.not_not];exact zLb.self x)]
  exact zAcW ht (by simpa using h1) (by simpa using h2) hne
 | i,[],_,a,b,_,h1,_,_=>by simp at h1
 | i,_::_,[],a,b,_,_,h2,_=>by simp at h2
theorem zAab {p p2:List Int}{i:Nat}{a:Int}(ht:p.take i=p2.take i)(h1:p[i]? = some a)(h2:p2[i]? = some a):p.take (i+1)=p2.take (i+1):=by
 rw[zAG,zAG,ht,h1,h2]
theorem zAac:∀ {a b:List UInt8},Lib.compareBytes a b=zJH a b
 | [],[]=>rfl
 | [],_::_=>rfl
 | _::_,[]=>rfl
 | a::x,b::y=>by
  rw[Lib.compareBytes,zAac (a:=x) (b:=y)]
  unfold zJH
  have e1:less (a::x) (b::y)=(decide (a<b) || (a == b&&less x y)):=rfl
  have e2:less (b::y) (a::x)=(decide (b<a) || (b == a&&less y x)):=rfl
  rw[e1,e2]
  by_cases h1:a<b
  ·simp[h1]
  ·by_cases h2:b<a
   ·have hne:a≠b:=λe=>by subst e;exact h1 h2
    simp[h1,h2,hne]
   ·have:a=b:=UInt8.le_antisymm (UInt8.not_lt.1 h2) (UInt8.not_lt.1 h1)
    subst this;simp[h1]
theorem zAfi {H:zAx}{a b:Int}:zAA prg zKH [.int .i64 a,.int .i64 b] H λu H'=>u = .int .i64 (zAbi a b)/\H=H':=by
 have nan:∀ x:Int,zAA prg zJW [.int .i64 x] H λu H'=>u = .bool false/\H=H':=λx=>by
  apply zPg
  unfold zO1
  simp only[zAJ,zC8,zAa,bne_self_eq_false]
  exact⟨by trivial,by trivial⟩
 apply zOb
 unfold zNv
 refine zAI (nan a) ?_
 rintro _ _ ⟨rfl,rfl⟩
 refine zAI (nan b) ?_
 rintro _ _ ⟨rfl,rfl⟩
 simp only[zA7,zAg,zAf,zAQ,zAU,zAv,zAl,zAa,if_true,if_false,zAb,zAc,decide_true,decide_false,reduceCtorEq,zBT,zEL,zEM,zEI,zEJ,zEK,zBp,zA8,zAJ,zC8,decide_eq_true_eq]
 unfold zAbi
 by_cases h1:a<b
 ·simp[h1]
 ·by_cases h2:a > b
  ·have h2':b<a:=h2
   simp[h1,h2']
  ·have h2':¬ b<a:=h2
   simp[h1,h2']
theorem zYY {H:zAx}{q r:Nat}{v w:Ver}(hv:v.wf)(hw:w.wf)(a:At H q (zEm v))(b:At H r (zEm w)) :
  zAA prg zFZ [.slice (some ⟨q,0,none⟩) 3 3,.slice (some ⟨r,0,none⟩) 3 3] H λu H'=>u = .int .i64 (zVx v.p w.p)/\H=H':=by
 apply zJ6
 unfold zH1
 have hp3:=hv.p3
 have hq3:=hw.p3
 refine zOt (λu h=>v.p=w.p/\H=h) (λk3 hk3=>?_) ?_
 ·rw[zKO,zAa]
  refine zKj (λu h=>∃ i:Nat,i<=3/\u = .int .i64 (i:Nat)/\v.p.take i=w.p.take i/\H=h) (λu _=>match u with | .int _ t=>3-t.toNat|_=>0) ⟨0,by omega,rfl,rfl,rfl⟩ ?_
  rintro _ _ ⟨i,hi,rfl,ht,rfl⟩ k hk
  have e3:((3:Nat):Int)=3:=rfl
  simp only[zAJ,zC8,zAa,zAl,decide_eq_true_eq,e3]
  by_cases hlt:(i:Int)<3
  ·rw[if_pos hlt]
   have h1:v.p[i]? = some (v.p[i]'(by omega)):=zAj _
   have h2:w.p[i]? = some (w.p[i]'(by omega)):=zAj _
   generalize (v.p[i]'(by omega))=x at h1
   generalize (w.p[i]'(by omega))=y at h2
   have hinc:IntKind.i64.wrap ((i:Int)+1)=(i+1:Nat):=by rw[zCe]<;>omega
   have i1:ixS 1 (.slice (some ⟨q,0,none⟩) 3 3) (.int .i64 (i:Nat))=some (Ptr q i):=by
    simp only[ixS];rw[if_pos ⟨by omega,by omega⟩];simp
   have i2:ixS 1 (.slice (some ⟨r,0,none⟩) 3 3) (.int .i64 (i:Nat))=some (Ptr r i):=by
    simp only[ixS];rw[if_pos ⟨by omega,by omega⟩];simp
   have hge:¬ ((i:Int)>=3):=by omega
   simp only[i1,i2,zAa,zKO,e3,zR0 a h1,zR0 b h2,zAJ,zC8,zAl,hinc,hge,zA7,zAg,zAf,zAQ,zAU,zAv,zAl,zAa,if_true,if_false,zAb,zAc,decide_true,decide_false,reduceCtorEq,zBT,zEL,zEM,zEI,zEJ,zEK,zBp,zA8]
   refine zAI zAfi ?_
   rintro _ _ ⟨rfl,rfl⟩
   simp only[zAJ,zC8,zAa,zAl,bne_iff_ne,ne_eq,zLb.zero]
   by_cases hxy:x=y
   ·subst hxy
    rw[if_neg (by simp)]
    exact hk _ _ ⟨i+1,by omega,rfl,zAab ht h1 h2,rfl⟩ (by show 3-(i+1)<3-i;omega)
   ·rw[if_pos hxy,zAcW ht h1 h2 hxy]
    exact⟨by trivial,by trivial⟩
  ·rw[if_neg hlt]
   rw[zAr (by omega),zAr (by omega)]at ht
   exact hk3 _ _ ⟨ht,rfl⟩
 rintro _ _ ⟨hp,rfl⟩
 rw[zKO,zAa,zKO,zAa]
 have e3:((3:Nat):Int)=3:=rfl
 have e4:¬ ((3:Int)<3):=by omega
 simp only[zAJ,zC8,zAa,zAl,e3,e4,zA7,zAg,zAf,zAQ,zAU,zAv,zAl,zAa,if_true,if_false,zAb,zAc,decide_true,decide_false,reduceCtorEq,zBT,zEL,zEM,zEI,zEJ,zEK,zBp,zA8]
 exact⟨by rw[(zZ5.zero _ _).2 hp],by trivial⟩
theorem zXH {args:Array Value}:xtV prg zEs args=Extern.BytealgCompare.compare args:=by kernel_rfl
theorem zTm {H:zAx}{a b:List UInt8}:zAA prg zGx [str a,str b] H λu H'=>u = .int .i64 (zJH a b)/\H=H':=by
 apply zOa
 unfold zNu
 refine zAI (R:=λu H'=>u = .int .i64 (zJH a b)/\H=H') ?_ λu h hR=>hR
 apply zH2
 unfold zGh
 intro w hw
 refine⟨_,w,by rw[zXH];exact Lib.run_compareString _ _ w,zJI.rfl' w,?_,hw.symm⟩
 rw[<- zAac]
theorem zAka {H:zAx}{v w:Ver}(hv:v.wf)(hw:w.wf):zAA prg zF9 [.agg (zEm v).toArray,.agg (zEm w).toArray] H λu H'=>u = .int .i64 (zAet v w)/\Keep zAK H H':=by
 apply zMl
 unfold zKs
 simp only[zB8,zBb]
 generalize hH1:H.push (.cells (zEm v).toArray zAO (0,0))=H1
 have k1:Keep zAK H H1:=by rw[<- hH1];exact Keep.push
 have a1:At H1 H.size (zEm v):=by rw[<- hH1];exact At.push
 generalize hH2:H1.push (.cells (zEm w).toArray zAO (0,0))=H2
 have k2:Keep zAK H1 H2:=by rw[<- hH2];exact Keep.push
 have b1:At H2 H1.size (zEm w):=by rw[<- hH2];exact At.push
 have a2:=a1.keep k2 id
 have kk:=k1.trans k2
 have sl:∀ q:Nat,slA 3 1 (Ptr q 0) none none none=some (.slice (some ⟨q,0,none⟩) 3 3):=λq=>by simp[slA,zNp,bnd]
 have e1:zTt .eql ⟨v.pre.toArray⟩ ⟨#[]⟩=some (.bool (decide (v.pre=[]))):=zQ7 (b:=[])
 have e2:zTt .eql ⟨w.pre.toArray⟩ ⟨#[]⟩=some (.bool (decide (w.pre=[]))):=zQ7 (b:=[])
 simp only[zBf,zAa,zAi,sl]
 refine zAI (zYY hv hw a2 b1) ?_
 rintro _ _ ⟨rfl,rfl⟩
 have bb:∀ x y:Bool,zAB .bool .neq (.bool x) (.bool y)=some (.bool (x != y)):=λx y=>by cases x<;>cases y<;>rfl
 unfold zAet
 have hne:((zVx v.p w.p != 0)=true)=(zVx v.p w.p≠0):=by simp
 simp only[zAJ,zC8,zAa,zAl,hne]
 by_cases hz:zVx v.p w.p≠0
 ·rw[if_pos hz,if_pos hz]
  exact⟨by trivial,kk⟩
 ·rw[if_neg hz,if_neg hz]
  unfold zAj9
  cases hx:decide (v.pre=[])<;>cases hy:decide (w.pre=[])<;>simp only[zA7,zAg,zAf,zAQ,zAU,zAv,zAl,zAa,if_true,if_false,zAb,zAc,decide_true,decide_false,reduceCtorEq,zBT,zEL,zEM,zEI,zEJ,zEK,zBp,zA8,zBf,zAi,zAcV a2 hv,zAcV b1 hw,zGf,e1,e2,hx,hy,bb,bne_self_eq_false,Bool.bne_true,Bool.bne_false]<;>exact zTm.mono λu h ⟨e,hh⟩=>⟨e,hh ▸ kk⟩
theorem zUp {a b:List UInt8}{q:EqK}(h:a.length+b.length<=9223372036854775807):zAB q .add (str a) (str b)=some (str (a++b)):=by rw[zGf];exact zWb h
theorem zDV {a b:List UInt8}{q:EqK}:zAB q .eql (str a) (str b)=some (.bool (decide (a=b))):=by rw[zGf];exact zQ7
theorem zWr {a b:List UInt8}{q:EqK}:zAB q .neq (str a) (str b)=some (.bool (!decide (a=b))):=by rw[zGf];exact zYM
theorem ix0 {q:Nat}:ixA 3 1 (Ptr q 0) (.int .i64 0)=some (Ptr q 0):=zSD (i:=0) (by omega)
def zAfj:List (List UInt8):=[[61],[33,61],[60],[60,61],[62],[62,61],[94]]
def vp0 (v:Ver):Int:=v.p.getD 0 0
def vp1 (v:Ver):Int:=v.p.getD 1 0
def zYZ (op:List UInt8)(w v:Ver):Bool :=
 bif decide (op=[61]) then !ltV v w && !ltV w v else
 bif decide (op=[33,61]) then ltV v w || ltV w v else
 bif decide (op=[60]) then ltV v w else
 bif decide (op=[60,61]) then !ltV w v else
 bif decide (op=[62]) then ltV w v else
 bif decide (op=[62,61]) then !ltV v w else
 bif decide (op=[94]) then !ltV v w&&(vp0 v == vp0 w)&&(vp0 w != 0 || vp1 v == vp1 w) else true
theorem _root_.Go.X.L0_i {body:(zAx->Prop)->zAx->Prop}{H:zAx}(I:zAx->Prop)(μ:zAx->Nat)(h0:I H)
  (hs:∀ h,I h->∀ k:zAx->Prop,(∀ h',I h'->μ h'<μ h->k h')->body k h):L0 body H:=by
 refine⟨λvs h=>vs=[]/\I h,λ_ h=>μ h,⟨rfl,h0⟩,?_⟩
 rintro vs h _ ⟨rfl,hI⟩
 exact hs h hI _ λh' hI' hm=>⟨⟨rfl,hI'⟩,hm⟩
theorem zBV {n:Nat}(h:n<=1099511627776):zAB .no .add (.int .i64 (n:Nat)) (.int .i64 1)=some (.int .i64 ((n+1:Nat):Int)):=by
 rw[zAJ];simp only[zC8];rw[zCe (by omega) (by omega)];rfl
theorem zAfk {n:Nat}:zAB .no .lss (.int .i64 (n:Nat)) (.int .i64 0)=some (.bool false):=by
 rw[zAJ];simp only[zC8];rw[decide_eq_false (by omega)]
theorem zAif:zAB .no .lss (.int .i64 (-1)) (.int .i64 0)=some (.bool true):=rfl
theorem zAfl {n:Nat}:zAB .no .geq (.int .i64 (n:Nat)) (.int .i64 0)=some (.bool true):=by
 rw[zAJ];simp only[zC8];rw[decide_eq_true (by omega)]
theorem zXI {H:zAx}{l:List UInt8}{x:UInt8}:zAA prg zDl [str l,.int .u8 x.toNat] H λu H'=>u = .int .i64 (Lib.indexByte l x)/\H=H':=by
 apply zEX
 unfold zEx
 intro w hw
 refine⟨_,w,by rw[zNA];exact Lib.run_indexByteString _ _ w,zJI.rfl' w,?_,hw.symm⟩
 simp
theorem zAad {H:zAx}{l:List UInt8}{c:UInt8}:zAA prg zEe [str l,str [c]] H λu H'=>u = .int .i64 (Lib.indexByte l c)/\H=H':=by
 apply zJb
 unfold zHe
 have e1:zNb (str [c])=some (.int .i64 1):=rfl
 have e2:zAB .no .eql (.int .i64 1) (.int .i64 0)=some (.bool false):=rfl
 have e3:zAB .no .eql (.int .i64 1) (.int .i64 1)=some (.bool true):=rfl
 have e4:ixT (str [c]) (.int .i64 0)=some (.int .u8 c.toNat):=zLN (i:=0) rfl
 have e5:=λq=>zDV (q:=q) (a:=[c]) (b:=l)
 cases hx:decide ([c]=l)<;>simp only[e1,e2,e3,e4,e5,hx,zA7,zAg,zAf,zAQ,zAU,zAv,zAl,zAa,if_true,if_false,zAb,zAc,decide_true,decide_false,reduceCtorEq,zBT,zEL,zEM,zEI,zEJ,zEK,zBp,zA8]
 ·exact zAI zXI λu h hR=>hR
 ·have:l=[c]:=(of_decide_eq_true hx).symm
  subst this
  refine⟨?_,by trivial⟩
  simp[Lib.indexByte]
theorem zAfm {H:zAx}{l:List UInt8}{c:UInt8}:zAA prg zME [str l,str [c]] H λu H'=>u = .int .i64 (Lib.indexByte l c)/\H=H':=by
 apply zPh
 unfold zO2
 exact zAI zAad λu h hR=>hR
theorem zAig {l:List UInt8}{o:Nat}(h:o<=l.length):slT (str l) none (some (.int .i64 (o:Nat)))=some (str (l.take o)):=by
 have:=zSE (l:=l) (lo:=0) (hi:=o) (a:=none) (b:=some (.int .i64 (o:Nat))) (zAz _) h rfl (by simp[bnd,h])
 rwa [zB4]at this
theorem zWs {l:List UInt8}{o:Nat}(h:o<=l.length):slT (str l) (some (.int .i64 (o:Nat))) none=some (str (l.drop o)):=by
 have:=zSE (l:=l) (lo:=o) (hi:=l.length) (a:=some (.int .i64 (o:Nat))) (b:=none) h (zAh _) (by simp[bnd,h]) rfl
 rwa [zBE]at this
theorem zAkb {H:zAx}{l:List UInt8}{c:UInt8}(hl:l.length<=1099511627776):zAA prg zF0 [str l,str [c]] H λu H'=>(∃ b:Bool,u = .tuple #[str (zWo c l),str (zYu c l),.bool b])/\H=H':=by
 apply zJ7
 unfold zH3
 refine zAI zAad ?_
 rintro _ _ ⟨rfl,rfl⟩
 rcases zUo l c with he|⟨o,he⟩
 ·rw[he]
  have e1:zAB .no .geq (.int .i64 (-1)) (.int .i64 0)=some (.bool false):=rfl
  obtain⟨h1,h2⟩:=zZ7 (zVy he)
  simp only[e1,zA7,zAg,zAf,zAQ,zAU,zAv,zAl,zAa,if_true,if_false,zAb,zAc,decide_true,decide_false,reduceCtorEq,zBT,zEL,zEM,zEI,zEJ,zEK,zBp,zA8]
  exact⟨⟨false,by rw[h1,h2]⟩,by trivial⟩
 ·rw[he]
  obtain⟨hlt,hni,hsp⟩:=zVz he
  have e2:zNb (str [c])=some (.int .i64 1):=rfl
  have e4:=zBV (n:=o) (by omega)
  have e5:=zAfl (n:=o)
  simp only[e5,e2,e4,zAig (Nat.le_of_lt hlt),zWs (show o+1<=l.length by omega),zA7,zAg,zAf,zAQ,zAU,zAv,zAl,zAa,if_true,if_false,zAb,zAc,decide_true,decide_false,reduceCtorEq,zBT,zEL,zEM,zEI,zEJ,zEK,zBp,zA8]
  refine⟨⟨true,?_⟩,by trivial⟩
  have:=zZ8 (c:=c) (b:=l.drop (o+1)) hni
  rw[<- hsp]at this
  rw[this.1,this.2]
theorem zAlW {H:zAx}{l:List UInt8}{c:UInt8}(hl:l.length<=1099511627776):zAA prg zOB [str l,str [c]] H λu H'=>(∃ b:Bool,u = .tuple #[str (zWo c l),str (zYu c l),.bool b])/\H=H':=by
 apply zQC
 unfold zQO
 refine zAI (zAkb hl) ?_
 rintro _ _ ⟨⟨b,rfl⟩,rfl⟩
 simp only[zA7,zAg,zAf,zAQ,zAU,zAv,zAl,zAa,if_true,if_false,zAb,zAc,decide_true,decide_false,reduceCtorEq,zBT,zEL,zEM,zEI,zEJ,zEK,zBp,zA8]
 exact⟨⟨b,rfl⟩,by trivial⟩
theorem zUq {H:zAx}{l p:List UInt8}:zAA prg zEE [str l,str p] H λu H'=>u = .bool (decide (p.length<=l.length)&&decide (l.take p.length=p))/\H=H':=by
 apply zH4
 unfold zGi
 have e0:zAB .no .geq (.int .i64 (l.length:Nat)) (.int .i64 (p.length:Nat))=some (.bool (decide (p.length<=l.length))):=by
  rw[zAJ];simp only[zC8];congr 2;rw[decide_eq_decide];omega
 simp only[zFu,zAa,e0]
 cases hx:decide (p.length<=l.length)<;>simp only[zA7,zAg,zAf,zAQ,zAU,zAv,zAl,zAa,if_true,if_false,zAb,zAc,decide_true,decide_false,reduceCtorEq,zBT,zEL,zEM,zEI,zEJ,zEK,zBp,zA8,zA2]
 ·trivial
 ·have:=of_decide_eq_true hx
  simp only[zAig this,zDV,zA7,zAg,zAf,zAQ,zAU,zAv,zAl,zAa,if_true,if_false,zAb,zAc,decide_true,decide_false,reduceCtorEq,zBT,zEL,zEM,zEI,zEJ,zEK,zBp,zA8,zBa]
  trivial
structure zRh (qs qp qn:Nat)(l:List UInt8)(c:UInt8)(h:zAx):Prop where
 s:At h qs [str l]
 p:At h qp [str [c]]
 n:At h qn [.int .i64 0]
 ne:qs≠qp/\qs≠qn
theorem zVA {qs qp qn:Nat}{l:List UInt8}{c:UInt8}(hl:l.length<=1099511627776) :
  zAmM prg (.func (.func zDT) #[] #[Ptr qp 0,Ptr qs 0,Ptr qn 0]) ((zD0 c l).map λx=>[str x]) (λb=>b=qs\/b=qp\/b=qn) (zRh qs qp qn l c):=by
 intro yv h0 J E hst hJ hbody sJ sE
 refine⟨zDT,#[],#[Ptr qp 0,Ptr qs 0,Ptr qn 0],rfl,by kernel_rfl,?_⟩
 show zAA prg zDT [yv,Ptr qp 0,Ptr qs 0,Ptr qn 0] h0 _
 apply zMP
 unfold zLl
 have e1:zNb (str [c])=some (.int .i64 1):=rfl
 have e2:zAB .no .eql (.int .i64 1) (.int .i64 0)=some (.bool false):=rfl
 refine zAjv (λh=>h0=h) (λk hk=>?_) ?_
 ·have:=hst.p.ld (i:=0) rfl
  simp only[this,zAa,e1,e2,zAl,zAb,if_false]
  exact hk _ rfl
 rintro _ rfl
 have hn:((zD0 c l).map λx=>[str x]).length=(zD0 c l).length:=by simp
 rw[hn]
 let I:zAx->Prop:=λh=>∃ (pre:List (List UInt8)) (rest:List UInt8),zD0 c l=pre++zD0 c rest/\rest.length<=l.length/\zRh qs qp qn rest c h/\J pre.length h
 let fin:zAx->Prop:=λh=>∃ (pre:List (List UInt8)) (rest:List UInt8),zD0 c l=pre++[rest]/\zRh qs qp qn rest c h/\J pre.length h
 refine zAjv fin (λk hk=>?_) ?_
 ·refine L0_i I (λh=>match ld1 h (Ptr qs 0) with|some (.string s)=>s.size|_=>0) ⟨[],l,rfl,zAh _,hst,hJ⟩ ?_
  rintro h ⟨pre,rest,hsp,hle,hs,hJ⟩ k2 hk2
  have d1:=hs.s.ld (i:=0) rfl
  have d2:=hs.p.ld (i:=0) rfl
  have d3:=hs.n.ld (i:=0) rfl
  simp only[d1,d2,zAa]
  refine zAI zAfm ?_
  rintro _ _ ⟨rfl,rfl⟩
  rcases zUo rest c with he|⟨o,he⟩
  ·rw[he,zAif,zAa,zAl,if_pos rfl]
   refine hk _ ⟨pre,rest,?_,hs,hJ⟩
   rw[hsp,zRf (zVy he)]
  ·obtain⟨hlt,hni,hre⟩:=zVz he
   have hsr:zD0 c rest=rest.take o::zD0 c (rest.drop (o+1)):=by
    conv=>lhs;rw[hre]
    exact zOO hni
   have e3:zAB .no .add (.int .i64 (o:Nat)) (.int .i64 0)=some (.int .i64 (o:Nat)):=by
    rw[zAJ];simp only[zC8];rw[zCe (by omega) (by omega)];simp
   rw[he,zAfk,zAa,zAl,if_neg (by decide)]
   simp only[d1,d3,zAa,e3,zAig (Nat.le_of_lt hlt)]
   have hget:((zD0 c l).map λx=>[str x])[pre.length]? = some [str (rest.take o)]:=by
    rw[zAq,hsp,hsr,zBe (zAh _),Nat.sub_self];rfl
   refine(hbody _ _ _ hget hJ).mono ?_
   rintro v h' ⟨hsz,hS,hv⟩
   have keepA:∀ {q cs},(q=qs\/q=qp\/q=qn)->At h q cs->At h' q cs:=λ{q cs} hq ⟨T,a⟩=>⟨T,by rw[hS q hq (lt_of a)];exact a⟩
   have s':=keepA (.inl rfl) hs.s
   have p':=keepA (.inr (.inl rfl)) hs.p
   have n':=keepA (.inr (.inr rfl)) hs.n
   rcases hv with ⟨rfl,hJ'⟩|⟨rfl,hE⟩
   ·have d1':=s'.ld (i:=0) rfl
    have d2':=p'.ld (i:=0) rfl
    have e4:=zBV (n:=o) (by omega)
    obtain⟨h2,hst2,a2,k2'⟩:=s'.st1 (i:=0) (v:=str (rest.drop (o+1))) (by simp) rfl
    simp only[zA7,zAg,zAa,zAl,zAb,if_false,d1',d2',e1,e4,zWs (show o+1<=rest.length by omega),hst2,zAW]
    refine hk2 _ ⟨pre++[rest.take o],rest.drop (o+1),by rw[hsp,hsr];simp,by simp;omega,⟨a2,p'.keep k2' (λe=>hs.ne.1 e.symm),n'.keep k2' (λe=>hs.ne.2 e.symm),hs.ne⟩,?_⟩ ?_
    ·rw[zAt]
     exact sJ _ _ _ hJ' (k2'.mono λb _ hb => .inl hb)
    ·have:=a2.ld (i:=0) (v:=str (rest.drop (o+1))) rfl
     rw[this,d1]
     simp only[zJa,zC1];omega
   ·simp only[zA7,zAf,zAa,zAl,if_true]
    exact .inr hE
 ·rintro h ⟨pre,rest,hsp,hs,hJ⟩
  have d1:=hs.s.ld (i:=0) rfl
  rw[d1,zAa]
  have hget:((zD0 c l).map λx=>[str x])[pre.length]? = some [str rest]:=by
   rw[zAq,hsp,zBe (zAh _),Nat.sub_self];rfl
  refine(hbody _ _ _ hget hJ).mono ?_
  rintro v h' ⟨hsz,hS,hv⟩
  rcases hv with ⟨rfl,hJ'⟩|⟨rfl,hE⟩
  ·left
   rw[hsp,zAt];exact hJ'
  ·exact .inr hE
theorem zVB {H:zAx}{l:List UInt8}{c:UInt8}:zAA prg zHw [str l,str [c]] H λu H' =>
  ∃ qs qp qn,u = .func (.func zDT) #[] #[Ptr qp 0,Ptr qs 0,Ptr qn 0]/\zRh qs qp qn l c H'/\(∀ b,(b=qs\/b=qp\/b=qn)->H.size<=b/\b<H'.size)/\Keep zAK H H':=by
 apply zNM
 unfold zMN
 refine zAI (R:=λu H'=>∃ qs qp qn,u = .func (.func zDT) #[] #[Ptr qp 0,Ptr qs 0,Ptr qn 0]/\zRh qs qp qn l c H'/\(∀ b,(b=qs\/b=qp\/b=qn)->H.size<=b/\b<H'.size)/\Keep zAK H H') ?_ λu h hR=>hR
 apply zNN
 unfold zMO
 have c1:Value.cells (str l)=[str l].toArray:=rfl
 have c2:Value.cells (str [c])=[str [c]].toArray:=rfl
 have c3:Value.cells (.int .i64 0)=[Value.int .i64 0].toArray:=rfl
 simp only[zBb,c1,c2,c3]
 generalize hH1:H.push (.cells [str l].toArray zBJ (0,0))=H1
 have k1:Keep zAK H H1:=by rw[<- hH1];exact Keep.push
 have a1:At H1 H.size [str l]:=by rw[<- hH1];exact At.push
 have s1:H1.size=H.size+1:=by rw[<- hH1];simp
 generalize hH2:H1.push (.cells [str [c]].toArray zBJ (0,0))=H2
 have k2:Keep zAK H1 H2:=by rw[<- hH2];exact Keep.push
 have a2:At H2 H1.size [str [c]]:=by rw[<- hH2];exact At.push
 have s2:H2.size=H1.size+1:=by rw[<- hH2];simp
 generalize hH3:H2.push (.cells [Value.int .i64 0].toArray zIC (0,0))=H3
 have k3:Keep zAK H2 H3:=by rw[<- hH3];exact Keep.push
 have a3:At H3 H2.size [.int .i64 0]:=by rw[<- hH3];exact At.push
 have s3:H3.size=H2.size+1:=by rw[<- hH3];simp
 refine⟨H.size,H1.size,H2.size,rfl,⟨(a1.keep k2 id).keep k3 id,a2.keep k3 id,a3,by omega,by omega⟩,?_,k1.trans (k2.trans k3)⟩
 intro b hb
 omega
end Go.Proofs.YticdfkoncnnmmaaGreatDoor
