import GoSem.Op.String
import Derived.Test.YticdfkoncnnmmaaGreatDoorGI
import Derived.Lib.IndexLaws
import Derived.Test.YticdfkoncnnmmaaGreatDoorGH
import Derived.Test.YticdfkoncnnmmaaGreatDoorGE
set_option linter.unusedSimpArgs false
set_option linter.unusedVariables false
set_option linter.unusedSectionVars false
set_option maxRecDepth 100000
namespace Go.X.Diff
abbrev less (a b:List UInt8):Bool:=Op.bytesLess a b
theorem zPU:∀ a:List UInt8,less a a=false
 | []=>rfl
 | a::l=>by
  have h:=zPU l
  simp only[less,Op.bytesLess]at h ⊢
  rw[h];simp
theorem zRf:∀ {a b c:List UInt8},less a b=true->less b c=true->less a c=true
 | _,[],_,h,_=>by cases ‹List UInt8› <;> simp[less,Op.bytesLess]at h
 | _,_::_,[],_,h=>by simp[less,Op.bytesLess]at h
 | [],_::_,_::_,_,_=>rfl
 | a::x,b::y,c::z,h1,h2=>by
  simp only[less,Op.bytesLess,zBX,zAm,decide_eq_true_eq,beq_iff_eq]at h1 h2 ⊢
  rcases h1 with h1|⟨rfl,h1⟩
  ·rcases h2 with h2|⟨rfl,h2⟩
   ·exact .inl (UInt8.lt_trans h1 h2)
   ·exact .inl h1
  ·rcases h2 with h2|⟨rfl,h2⟩
   ·exact .inl h2
   ·exact .inr ⟨rfl,zRf h1 h2⟩
theorem zPa:∀ {a b:List UInt8},less a b=false->less b a=false->a=b
 | [],[],_,_=>rfl
 | [],_::_,h,_=>by simp[less,Op.bytesLess]at h
 | _::_,[],_,h=>by simp[less,Op.bytesLess]at h
 | a::x,b::y,h1,h2=>by
  simp only[less,Op.bytesLess,Bool.or_eq_false_iff,Bool.and_eq_false_iff,decide_eq_false_iff_not,beq_eq_false_iff_ne]at h1 h2
  have hab:a=b:=by
   rcases UInt8.lt_or_eq_of_le (UInt8.not_lt.1 h2.1) with h|h
   ·exact absurd h h1.1
   ·exact h
  subst hab
  have e1:=h1.2.resolve_left λh=>h rfl
  have e2:=h2.2.resolve_left λh=>h rfl
  rw[zPa e1 e2]
theorem zAaV {a b:List UInt8}(h:less a b=true):a≠b:=by
 rintro rfl;rw[zPU]at h;cases h
theorem zZa {a b:List UInt8}(h:less a b=true):less b a=false:=by
 cases hb:less b a with
 | false=>rfl
 | true=>have:=zRf h hb;rw[zPU]at this;cases this
structure zAjF where
 name:List UInt8
 fr:List UInt8
 to:List UInt8
def zAjF.turn (s:zAjF):zAjF:=⟨s.name,s.to,s.fr⟩
section
variable {α:Type} [DecidableEq α] (nm sh:α->List UInt8)
def Ris (l:List α):Prop:=l.Pairwise λx y=>less (nm x) (nm y)=true
variable {nm sh}
theorem Ris.cons {x:α}{l:List α}(h:Ris nm (x::l)):(∀ y∈l,less (nm x) (nm y)=true)/\Ris nm l:=zB5.1 h
end
end Go.X.Diff
namespace Go.Proofs.YticdfkoncnnmmaaGreatDoor
open Go.X Go.X.Diff
structure zRX {α:Type}(c:α->α->Int):Prop where
 three:∀ a b,c a b = -1\/c a b=0\/c a b=1
 turn:∀ a b,c b a = -(c a b)
 zero:∀ a b,c a b=0↔a=b
 trans:∀ {a b d},c a b<=0->c b d<=0->c a d<=0
namespace zRX
variable {α β:Type} {c:α->α->Int} {e:β->β->Int}
theorem self (h:zRX c)(a:α):c a a=0:=(h.zero a a).2 rfl
theorem both (h:zRX c){a b:α}(h1:c a b<=0)(h2:c b a<=0):a=b:=by
 have:=h.turn a b;exact(h.zero a b).1 (by omega)
theorem chain (h:zRX c){a b d:α}(h1:c a b<=0)(h2:c b d<=0):c a d=0↔(a=b/\b=d):=by
 constructor
 ·intro h0
  obtain rfl:=(h.zero a d).1 h0
  have:=h.both h1 h2
  exact⟨this,this.symm⟩
 ·rintro⟨rfl,rfl⟩;exact h.self _
theorem lt_le (h:zRX c){a b d:α}(h1:c a b<0)(h2:c b d<=0):c a d<0:=by
 have h3:=h.trans (Int.le_of_lt h1) h2
 have h4:=(h.chain (Int.le_of_lt h1) h2)
 have:c a d≠0:=λh0=>by
  obtain⟨rfl,_⟩:=h4.1 h0
  rw[h.self]at h1;omega
 omega
def lex (c:α->α->Int)(e:β->β->Int)(a b:α×β):Int:=if c a.1 b.1≠0 then c a.1 b.1 else e a.2 b.2
theorem lex_ord (h:zRX c)(k:zRX e):zRX (lex c e) where
 three a b:=by
  unfold lex;split
  ·exact h.three _ _
  ·exact k.three _ _
 turn a b:=by
  unfold lex
  have h1:=h.turn a.1 b.1
  have h2:=k.turn a.2 b.2
  split<;>split<;>omega
 zero a b:=by
  unfold lex
  have h1:=h.zero a.1 b.1
  have h2:=k.zero a.2 b.2
  split
  ·rename_i hn
   constructor
   ·intro h0;exact absurd h0 hn
   ·rintro rfl;exact absurd (h1.2 rfl) hn
  ·rename_i hn
   have:=h1.1 (Classical.not_not.1 hn)
   rw[h2]
   exact⟨λh=>Prod.ext this h,λh=>by rw[h]⟩
 trans {a b d} h1 h2:=by
  unfold lex at h1 h2 ⊢
  split at h1
  ·rename_i n1
   split at h2
   ·rename_i n2
    have:=h.lt_le (a:=a.1) (b:=b.1) (d:=d.1) (by omega) h2
    rw[if_pos (by omega)];omega
   ·rename_i n2
    have e1:=(h.zero _ _).1 (Classical.not_not.1 n2)
    rw[<- e1,if_pos n1];exact h1
  ·rename_i n1
   have e1:=(h.zero _ _).1 (Classical.not_not.1 n1)
   rw[e1]
   split at h2
   ·rename_i n2
    rw[if_pos n2];exact h2
   ·rename_i n2
    rw[if_neg n2];exact k.trans h1 h2
theorem pull {f:β->α}(h:zRX c)(hf:∀ a b,f a=f b->a=b):zRX λa b=>c (f a) (f b) where
 three a b:=h.three _ _
 turn a b:=h.turn _ _
 zero a b:=by rw[h.zero];exact⟨hf a b,λh=>by rw[h]⟩
 trans h1 h2:=h.trans h1 h2
end zRX
def zZb (a b:Int):Int:=if a<b then -1 else if b<a then 1 else 0
theorem zKm:zRX zZb where
 three a b:=by
  unfold zZb
  split
  ·simp
  split<;>simp
 turn a b:=by unfold zZb;split<;>split<;>first|omega|(split<;>omega)
 zero a b:=by
  unfold zZb
  split
  ·omega
  split<;>omega
 trans {a b d} h1 h2:=by
  unfold zZb at *
  split at h1<;>split at h2<;>split<;>first|omega|(split<;>split at h1<;>split at h2<;>omega)|(split<;>split at h1<;>omega)|(split<;>split at h2<;>omega)|(split<;>omega)
def zMA (a b:List UInt8):Int:=if less a b=true then -1 else if less b a=true then 1 else 0
theorem zFG:zRX zMA where
 three a b:=by
  unfold zMA
  split
  ·simp
  split<;>simp
 turn a b:=by
  unfold zMA
  by_cases h1:less a b=true
  ·simp[h1,zZa h1]
  ·rw[if_neg h1]
   by_cases h2:less b a=true
   ·simp[h1,h2]
   ·rw[if_neg h2,if_neg h2,if_neg h1];rfl
 zero a b:=by
  unfold zMA
  by_cases h1:less a b=true
  ·rw[if_pos h1];exact⟨λh=>by omega,λh=>absurd h (zAaV h1)⟩
  ·rw[if_neg h1]
   by_cases h2:less b a=true
   ·rw[if_pos h2];exact⟨λh=>by omega,λh=>absurd h.symm (zAaV h2)⟩
   ·rw[if_neg h2];exact⟨λ_=>zPa (by simpa using h1) (by simpa using h2),λ_=>rfl⟩
 trans {a b d} h1 h2:=by
  unfold zMA at *
  by_cases a1:less a b=true
  ·by_cases a2:less b d=true
   ·rw[if_pos (zRf a1 a2)];omega
   ·rw[if_neg a2]at h2
    by_cases a3:less d b=true
    ·rw[if_pos a3]at h2;omega
    ·have:=zPa (by simpa using a2) (by simpa using a3)
     rw[<- this,if_pos a1];omega
  ·rw[if_neg a1]at h1
   by_cases a3:less b a=true
   ·rw[if_pos a3]at h1;omega
   ·have:=zPa (by simpa using a1) (by simpa using a3)
    rw[this];exact h2
def zTU:List Int->List Int->Int
 | [],[]=>0
 | [],_::_ => -1
 | _::_,[]=>1
 | a::x,b::y=>if zZb a b≠0 then zZb a b else zTU x y
theorem zL4 {a b:Int}{x y:List Int}:zTU (a::x) (b::y)=if zZb a b≠0 then zZb a b else zTU x y:=rfl
theorem zX4:zRX zTU where
 three:=by
  intro a
  induction a with
  | nil=>intro b;cases b<;>simp[zTU]
  | cons a x ih =>
   intro b
   cases b with
   | nil=>simp[zTU]
   | cons b y =>
    rw[zL4]
    split
    ·exact zKm.three _ _
    exact ih y
 turn:=by
  intro a
  induction a with
  | nil=>intro b;cases b<;>simp[zTU]
  | cons a x ih =>
   intro b
   cases b with
   | nil=>simp[zTU]
   | cons b y =>
    rw[zL4,zL4]
    have h1:=zKm.turn a b
    have h2:=ih y
    split<;>split<;>omega
 zero:=by
  intro a
  induction a with
  | nil=>intro b;cases b<;>simp[zTU]
  | cons a x ih =>
   intro b
   cases b with
   | nil=>simp[zTU]
   | cons b y =>
    rw[zL4]
    have h1:=zKm.zero a b
    split
    ·rename_i hn
     constructor
     ·intro h0;exact absurd h0 hn
     ·intro h;injection h with e1 e2;exact absurd (h1.2 e1) hn
    ·rename_i hn
     have:=h1.1 (Classical.not_not.1 hn)
     rw[ih y,this];simp
 trans:=by
  intro a
  induction a with
  | nil=>intro b d h1 h2;cases b<;>cases d<;>simp[zTU]at *
  | cons a x ih =>
   intro b d h1 h2
   cases b with
   | nil=>simp[zTU]at h1
   | cons b y =>
    cases d with
    | nil=>simp[zTU]at h2
    | cons d z =>
     rw[zL4]at *
     split at h1
     ·rename_i n1
      split at h2
      ·rename_i n2
       have:=zKm.lt_le (a:=a) (b:=b) (d:=d) (by omega) h2
       rw[if_pos (by omega)];omega
      ·rename_i n2
       have e1:=(zKm.zero b d).1 (Classical.not_not.1 n2)
       rw[<- e1,if_pos n1];exact h1
     ·rename_i n1
      have e1:=(zKm.zero a b).1 (Classical.not_not.1 n1)
      rw[e1]
      split at h2
      ·rename_i n2
       rw[if_pos n2];exact h2
      ·rename_i n2
       rw[if_neg n2];exact ih h1 h2
def zAhR (a b:List UInt8):Int:=if decide (a=[]) != decide (b=[]) then zMA b a else zMA a b
def zAjd (a:List UInt8):Int:=if a=[] then 1 else 0
theorem zX5 {a:List UInt8}(h:a≠[]):zMA [] a = -1/\zMA a []=1:=by
 cases a with
 | nil=>exact absurd rfl h
 | cons x l=>exact⟨rfl,rfl⟩
theorem zAde:zAhR=λa b=>zRX.lex zZb zMA (zAjd a,a) (zAjd b,b):=by
 funext a b
 unfold zAhR zRX.lex zAjd
 by_cases ha:a=[]
 ·by_cases hb:b=[]
  ·subst ha hb;rfl
  ·subst ha
   simp only[decide_true,if_true,decide_eq_false hb,if_neg hb]
   rw[(zX5 hb).2];rfl
 ·by_cases hb:b=[]
  ·subst hb
   simp only[decide_true,if_true,decide_eq_false ha,if_neg ha]
   rw[(zX5 ha).1];rfl
  ·simp only[decide_eq_false ha,if_neg ha,decide_eq_false hb,if_neg hb];rfl
theorem zAdf:zRX zAhR:=by
 rw[zAde]
 exact(zRX.lex_ord zKm zFG).pull (f:=λa=>(zAjd a,a)) λa b h=>congrArg Prod.snd h
def zAcr (v w:Ver):Int:=if zTU v.p w.p≠0 then zTU v.p w.p else zAhR v.pre w.pre
theorem zMB:zRX zAcr :=
 (zRX.lex_ord zX4 zAdf).pull (f:=λv:Ver=>(v.p,v.pre)) λa b h=>by
  cases a;cases b;simp only[Prod.mk.injEq]at h;simp[h.1,h.2]
def ltV (v w:Ver):Bool:=decide (zAcr v w<0)
end Go.Proofs.YticdfkoncnnmmaaGreatDoor
namespace Go.Proofs.YticdfkoncnnmmaaGreatDoor
open Go.X Go.X.Diff
def zUD (c:UInt8)(l:List UInt8):List UInt8:=l.takeWhile (· != c)
def zWv (c:UInt8)(l:List UInt8):List UInt8:=(l.dropWhile (· != c)).drop 1
def zDJ (c:UInt8):List UInt8->List (List UInt8)
 | []=>[[]]
 | x::l=>if x=c then []::zDJ c l else match zDJ c l with
  | []=>[[x]]
  | h::t=>(x::h)::t
theorem zPV {c:UInt8}:∀ {l:List UInt8},c∉l->zDJ c l=[l]
 | [],_=>rfl
 | x::l,h=>by
  simp only[zAp,not_or]at h
  rw[zDJ,if_neg (λe=>h.1 e.symm),zPV h.2]
theorem zNQ {c:UInt8}{b:List UInt8}:∀ {a:List UInt8},c∉a->zDJ c (a++c::b)=a::zDJ c b
 | [],_=>by rw[zAX,zDJ,if_pos rfl]
 | x::l,h=>by
  simp only[zAp,not_or]at h
  rw[zCm,zDJ,if_neg (λe=>h.1 e.symm),zNQ h.2]
theorem zX6 {c:UInt8}{l:List UInt8}(h:c∉l):zUD c l=l/\zWv c l=[]:=by
 have hp:∀ x∈l,(x != c)=true:=λx hx=>by simp only[bne_iff_ne];rintro rfl;exact h hx
 unfold zUD zWv
 have h1:=List.takeWhile_append_of_pos (l₂:=[]) hp
 have h2:=List.dropWhile_append_of_pos (l₂:=[]) hp
 simp only[zAS,List.takeWhile_nil,List.dropWhile_nil]at h1 h2
 rw[h1,h2];exact⟨rfl,rfl⟩
theorem zX7 {c:UInt8}{a b:List UInt8}(h:c∉a):zUD c (a++c::b)=a/\zWv c (a++c::b)=b:=by
 have hp:∀ x∈a,(x != c)=true:=λx hx=>by simp only[bne_iff_ne];rintro rfl;exact h hx
 unfold zUD zWv
 rw[List.takeWhile_append_of_pos hp,List.dropWhile_append_of_pos hp];simp
theorem zTV {l:List UInt8}{c:UInt8}(h:Lib.indexByte l c = -1):c∉l:=λhm=>by
 obtain⟨k,hk⟩:=List.getElem?_of_mem hm
 exact Lib.indexByte_none h k hk
theorem zTW {l:List UInt8}{c:UInt8}{o:Nat}(h:Lib.indexByte l c=o):o<l.length/\c∉l.take o/\l=l.take o++c::l.drop (o+1):=by
 obtain⟨h1,h2⟩:=Lib.indexByte_some h
 obtain⟨hlt,he⟩:=zAP.1 h1
 refine⟨hlt,λhm=>?_,?_⟩
 ·obtain⟨k,hk⟩:=List.getElem?_of_mem hm
  rw[zCd]at hk
  split at hk
  ·rename_i hlt;exact h2 k hlt hk
  ·cases hk
 ·conv=>lhs;rw[<- zBn o l]
  rw[zBL hlt,he]
theorem zST (l:List UInt8)(c:UInt8):Lib.indexByte l c = -1\/∃ o:Nat,Lib.indexByte l c=o:=by
 have:=Lib.indexByte_ge l c
 by_cases h:Lib.indexByte l c = -1
 ·exact .inl h
 ·exact .inr ⟨(Lib.indexByte l c).toNat,by omega⟩
theorem zPX (n:Nat):∀ x∈zHS n,48<=x.toNat/\x.toNat<=57:=by
 induction n using Nat.strongRecOn with
 | ind n ih =>
  intro x hx
  have hd:∀ m,m<10->(zDq m).toNat=48+m:=λm hm=>by unfold zDq;rw[UInt8.toNat_ofNat'];omega
  rw[zHS]at hx
  split at hx
  ·obtain rfl:x=zDq n:=by simpa using hx
   rw[hd _ (by omega)];omega
  ·rcases zAr.1 hx with hx|hx
   ·exact ih _ (by omega) x hx
   ·obtain rfl:x=zDq (n % 10):=by simpa using hx
    rw[hd _ (by omega)];omega
theorem zAf3 (n:Nat):zHS n≠[]:=by rw[zHS];split<;>simp
def zZR (l:List UInt8):Nat:=l.foldl (λn c=>n*10+(c.toNat-48)) 0
theorem zVL {l:List UInt8}{c:UInt8}:zZR (l++[c])=zZR l*10+(c.toNat-48):=by simp[zZR]
theorem zUE (n:Nat):zZR (zHS n)=n:=by
 induction n using Nat.strongRecOn with
 | ind n ih =>
  have hd:∀ m,m<10->(zDq m).toNat=48+m:=λm hm=>by unfold zDq;rw[UInt8.toNat_ofNat'];omega
  rw[zHS]
  split
  ·show 0*10+((zDq n).toNat-48)=n
   rw[hd _ (by omega)];omega
  ·rw[zVL,ih _ (by omega),hd _ (by omega)];omega
def zUF (l:List UInt8)(n:Int):Prop:=∀ m:Nat,m<=999999->l=zHS m->n=m
structure zAkD (s:List UInt8)(v:Ver):Prop where
 p3:v.p.length=3
 pre:v.pre=zWv 45 s
 parts:∀ (i:Nat) (l:List UInt8),(zDJ 46 (zUD 45 s))[i]? = some l->∃ n,v.p[i]? = some n/\zUF l n
theorem zNt {v:Ver}(hp:v.p.length=3)(hok:zFU v=true):zDJ 46 (zUD 45 (zLw v))=v.p.map (λn=>zHS n.toNat)/\zWv 45 (zLw v)=v.pre:=by
 obtain⟨p,pre⟩:=v
 have hnot:∀ (n:Nat) (c:UInt8),c.toNat<48->c∉zHS n:=λn c hc hm=>by have:=zPX n c hm;omega
 match p,hp with
 | [a,b,c],_ =>
  unfold zLw
  rw[if_pos hok]
  simp only[zUA,zBa,List.map_nil,zBv,List.flatten_nil,zAS]
  have h45:(45:UInt8)∉zHS a.toNat++([46]++zHS b.toNat++([46]++zHS c.toNat)):=by
   simp only[zAr,zAI,not_or]
   exact⟨hnot _ _ (by decide),⟨by decide,hnot _ _ (by decide)⟩,by decide,hnot _ _ (by decide)⟩
  have hs:zDJ 46 (zHS a.toNat++([46]++zHS b.toNat++([46]++zHS c.toNat)))=[zHS a.toNat,zHS b.toNat,zHS c.toNat]:=by
   rw[show zHS a.toNat++([46]++zHS b.toNat++([46]++zHS c.toNat))=zHS a.toNat++46::(zHS b.toNat++46::zHS c.toNat) by simp]
   rw[zNQ (hnot _ _ (by decide)),zNQ (hnot _ _ (by decide)),zPV (hnot _ _ (by decide))]
  split
  ·rename_i he
   rw[zAS]
   obtain⟨e1,e2⟩:=zX6 h45
   rw[e1,e2];exact⟨hs,he.symm⟩
  ·obtain⟨e1,e2⟩:=zX7 (b:=pre) h45
   rw[e1,e2];exact⟨hs,rfl⟩
theorem zAdg {v:Ver}(hp:v.p.length=3)(hok:zFU v=true):zLw v≠[]:=by
 intro h
 have:=(zNt hp hok).1
 rw[h]at this
 have:=congrArg List.length this
 simp[zUD,zDJ,hp]at this
theorem zX8 {v w:Ver}{s:List UInt8}(hw:w.p.length=3)(hok:zFU w=true)(hs:zLw w=s)(h:zAkD s v):v=w:=by
 obtain⟨e1,e2⟩:=zNt hw hok
 rw[hs]at e1 e2
 obtain⟨h1,h2,h3⟩:=h
 rw[e2]at h2
 rw[e1]at h3
 obtain⟨p,pre⟩:=v
 obtain⟨q,qre⟩:=w
 simp only at *
 match p,q,h1,hw with
 | [x,y,z],[a,b,c],_,_ =>
  have hall:[a,b,c].all zNr=true:=by unfold zFU at hok;simp only[zAm]at hok;exact hok.1
  have ha:=zNs (zAv.1 hall a (by simp))
  have hb:=zNs (zAv.1 hall b (by simp))
  have hc:=zNs (zAv.1 hall c (by simp))
  obtain⟨n0,k0,r0⟩:=h3 0 _ rfl
  obtain⟨n1,k1,r1⟩:=h3 1 _ rfl
  obtain⟨n2,k2,r2⟩:=h3 2 _ rfl
  have r0:=r0 a.toNat (by omega) rfl
  have r1:=r1 b.toNat (by omega) rfl
  have r2:=r2 c.toNat (by omega) rfl
  simp at k0 k1 k2
  subst k0 k1 k2 h2
  congr 1
  congr 1
  ·omega
  ·congr 1
   ·omega
   ·congr 1;omega
theorem zAdh {v w:Ver}(hv:v.p.length=3)(hw:w.p.length=3)(ho:zFU v=true)(ho2:zFU w=true)(h:zLw v=zLw w):v=w:=by
 refine zX8 (s:=zLw w) hw ho2 rfl ⟨hv,?_,?_⟩
 ·rw[<- h];exact(zNt hv ho).2.symm
 ·intro i l hl
  rw[<- h,(zNt hv ho).1,zAq]at hl
  obtain⟨n,hn,rfl⟩:=zBu.1 hl
  refine⟨n,hn,λm _ he=>?_⟩
  have:=congrArg zZR he
  rw[zUE,zUE]at this
  have hall:v.p.all zNr=true:=by unfold zFU at ho;simp only[zAm]at ho;exact ho.1
  have:=zNs (zAv.1 hall n (zAC hn))
  omega
theorem zTr {v:Ver}(hp:v.p.length=3)(hok:zFU v=true):(zDJ 46 (zUD 45 (zLw v))).length=3:=by
 rw[(zNt hp hok).1,zAf,hp]
theorem zBt {v:Value}{l:List (Option Value×Value)}{p:Prop}:Mre ((some v,v)::l) p↔Mre l p:=by simp
theorem zEy {a b:Value}:zE3 0 (.tuple #[a,b])=some a:=rfl
theorem zEz {a b:Value}:zE3 1 (.tuple #[a,b])=some b:=rfl
theorem zEv {a b c:Value}:zE3 0 (.tuple #[a,b,c])=some a:=rfl
theorem zEw {a b c:Value}:zE3 1 (.tuple #[a,b,c])=some b:=rfl
theorem zEx {a b c:Value}:zE3 2 (.tuple #[a,b,c])=some c:=rfl
def At (h:zAw)(q:Nat)(cs:List Value):Prop:=∃ T,h[q]? = some (.cells cs.toArray T (0,0))
section
variable {h h' H:zAw} {q:Nat} {cs:List Value}
theorem At.push {T:TypeId}:At (h.push (.cells cs.toArray T (0,0))) h.size cs:=⟨T,zCh⟩
theorem At.keep {S:zAY}(a:At h q cs)(k:Keep S h h')(hs:¬ S q):At h' q cs:=by obtain⟨T,a⟩:=a;exact⟨T,k.at a hs⟩
theorem At.lt (a:At h q cs):q<h.size:=by obtain⟨T,a⟩:=a;exact lt_of a
theorem At.pt (a:At h q cs):Pt h q 0 cs:=by obtain⟨T,a⟩:=a;exact Pt.of a
theorem At.ldN (a:At h q cs){n:Nat}(hn:cs.length=n):ldN n h (Ptr q 0)=some (.agg cs.toArray):=a.pt.agg hn
theorem At.ld (a:At h q cs){i:Nat}{v:Value}(hi:cs[i]? = some v):ld1 h (Ptr q i)=some v:=by obtain⟨T,a⟩:=a;exact zQV a hi
theorem At.st (a:At h q cs){n:Nat}{ds:List Value}(hn:cs.length=n)(hd:ds.length=n)(h1:∀ c∈ds,c.oneCell'=true) :
  ∃ h',stN n h (Ptr q 0) (.agg ds.toArray)=some h'/\At h' q ds/\Keep (· = q) h h':=by
 obtain⟨T,a⟩:=a
 have:=zOA (n:=n) (o:=0) (A:=[]) (B:=cs) (C:=[]) (B':=ds) (by rw[zAX,zAS];exact a) rfl (by simp[hn]) hd (zTS h1)
 rw[zAX,zAS]at this
 exact⟨_,this,⟨T,zBh a⟩,Keep.set rfl⟩
theorem At.st1 (a:At h q cs){i:Nat}{v:Value}(hi:i<cs.length)(hv:v.oneCell'=true):∃ h',st1 h (Ptr q i) v=some h'/\At h' q (cs.set i v)/\Keep (· = q) h h':=by
 obtain⟨T,a⟩:=a
 exact⟨_,zWu a hi hv,⟨T,zBh a⟩,Keep.set rfl⟩
theorem _root_.Go.X.Keep.fresh {S:zAY}(k:Keep zAK H h)(k2:Keep S h h')(hs:∀ b,S b->H.size<=b):Keep zAK H h' :=
 ⟨zBm k.1 k2.1,λi hi _=>by rw[k2.2 i (zAW hi k.1) (λh=>by have:=hs i h;omega),k.2 i hi id]⟩
end
theorem Ver.cases3 {v:Ver}(h:v.wf):∃ a b c,v.p=[a,b,c]:=by
 obtain⟨p,pre⟩:=v
 have:=h.p3
 match p,this with
 | [a,b,c],_=>exact⟨a,b,c,rfl⟩
section
variable {h:zAw} {q:Nat} {v:Ver}
theorem zOP (a:At h q (zEt v))(hv:v.wf):ldN 4 h (Ptr q 0)=some (.agg (zEt v).toArray):=a.ldN (zDE hv)
theorem zAaW (a:At h q (zEt v))(hv:v.wf):ld1 h (Ptr q 3)=some (str v.pre):=a.ld (by
 unfold zEt
 rw[zA6 (by simp[hv.p3])]
 simp[hv.p3])
theorem zQD (a:At h q (zEt v)){i:Nat}{x:Int}(hi:v.p[i]? = some x):ld1 h (Ptr q i)=some (.int .i64 x):=a.ld (by
 unfold zEt
 have hlt:=(zAP.1 hi).1
 rw[List.getElem?_append_left (by simpa using hlt)]
 exact zHz hi)
end
theorem zAk6:zBF prg zAQ=some (zEt ⟨[0,0,0],[]⟩).toArray:=by kernel_rfl
def zED:Ver:=⟨[0,0,0],[]⟩
theorem zGy:zED.wf:=⟨rfl,by simp[zED]⟩
theorem zAjG:zCP prg zAQ []=some (.agg (zEt zED).toArray):=by kernel_rfl
theorem zAaX:∀ {i:Nat} {p p2:List Int} {a b:Int},p.take i=p2.take i->p[i]? = some a->p2[i]? = some b->a≠b->zTU p p2=zZb a b
 | 0,x::p,y::p2,a,b,_,h1,h2,hne=>by
  simp at h1 h2
  subst h1 h2
  rw[zL4,if_pos]
  rw[ne_eq,zKm.zero];exact hne
 | i+1,x::p,y::p2,a,b,ht,h1,h2,hne=>by
  simp only[zB0,List.cons.injEq]at ht
  obtain⟨rfl,ht⟩:=ht
  rw[zL4,if_neg (by rw[Classical.not_not];exact zKm.self x)]
  exact zAaX ht (by simpa using h1) (by simpa using h2) hne
 | i,[],_,a,b,_,h1,_,_=>by simp at h1
 | i,_::_,[],a,b,_,_,h2,_=>by simp at h2
theorem zX9 {p p2:List Int}{i:Nat}{a:Int}(ht:p.take i=p2.take i)(h1:p[i]? = some a)(h2:p2[i]? = some a):p.take (i+1)=p2.take (i+1):=by
 rw[zAJ,zAJ,ht,h1,h2]
theorem zYa:∀ {a b:List UInt8},Lib.compareBytes a b=zMA a b
 | [],[]=>rfl
 | [],_::_=>rfl
 | _::_,[]=>rfl
 | a::x,b::y=>by
  rw[Lib.compareBytes,zYa (a:=x) (b:=y)]
  unfold zMA
  have e1:less (a::x) (b::y)=(decide (a<b) || (a == b&&less x y)):=rfl
  have e2:less (b::y) (a::x)=(decide (b<a) || (b == a&&less y x)):=rfl
  rw[e1,e2]
  by_cases h1:a<b
  ·simp[h1]
  ·by_cases h2:b<a
   ·have hne:a≠b:=λe=>by subst e;exact h1 h2
    simp[h1,h2,hne]
   ·have:a=b:=UInt8.le_antisymm (UInt8.not_lt.1 h2) (UInt8.not_lt.1 h1)
    subst this;simp[h1]
theorem zAdi {H:zAw}{a b:Int}:zAA prg zJS [.int .i64 a,.int .i64 b] H λu H'=>u = .int .i64 (zZb a b)/\H=H':=by
 have nan:∀ x:Int,zAA prg zI6 [.int .i64 x] H λu H'=>u = .bool false/\H=H':=λx=>by
  apply zOg
  unfold zN2
  simp only[zAG,zC9,zAa,bne_self_eq_false]
  exact⟨by trivial,by trivial⟩
 apply zNh
 unfold zMs
 refine zAM (nan a) ?_
 rintro _ _ ⟨rfl,rfl⟩
 refine zAM (nan b) ?_
 rintro _ _ ⟨rfl,rfl⟩
 simp only[zA5,zAe,zAd,zAL,zAR,zAt,zAl,zAa,if_true,if_false,zAb,zAc,decide_true,decide_false,reduceCtorEq,zBN,zEy,zEz,zEv,zEw,zEx,zBt,zA7,zAG,zC9,decide_eq_true_eq]
 unfold zZb
 by_cases h1:a<b
 ·simp[h1]
 ·by_cases h2:a > b
  ·have h2':b<a:=h2
   simp[h1,h2']
  ·have h2':¬ b<a:=h2
   simp[h1,h2']
theorem zW2 {H:zAw}{q r:Nat}{v w:Ver}(hv:v.wf)(hw:w.wf)(a:At H q (zEt v))(b:At H r (zEt w)) :
  zAA prg zFq [.slice (some ⟨q,0,none⟩) 3 3,.slice (some ⟨r,0,none⟩) 3 3] H λu H'=>u = .int .i64 (zTU v.p w.p)/\H=H':=by
 apply zJf
 unfold zHo
 have hp3:=hv.p3
 have hq3:=hw.p3
 refine zOd (λu h=>v.p=w.p/\H=h) (λk3 hk3=>?_) ?_
 ·rw[zJZ,zAa]
  refine zKl (λu h=>∃ i:Nat,i<=3/\u = .int .i64 (i:Nat)/\v.p.take i=w.p.take i/\H=h) (λu _=>match u with | .int _ t=>3-t.toNat|_=>0) ⟨0,by omega,rfl,rfl,rfl⟩ ?_
  rintro _ _ ⟨i,hi,rfl,ht,rfl⟩ k hk
  have e3:((3:Nat):Int)=3:=rfl
  simp only[zAG,zC9,zAa,zAl,decide_eq_true_eq,e3]
  by_cases hlt:(i:Int)<3
  ·rw[if_pos hlt]
   have h1:v.p[i]? = some (v.p[i]'(by omega)):=zAj _
   have h2:w.p[i]? = some (w.p[i]'(by omega)):=zAj _
   generalize (v.p[i]'(by omega))=x at h1
   generalize (w.p[i]'(by omega))=y at h2
   have hinc:IntKind.i64.wrap ((i:Int)+1)=(i+1:Nat):=by rw[zB8]<;>omega
   have i1:ixS 1 (.slice (some ⟨q,0,none⟩) 3 3) (.int .i64 (i:Nat))=some (Ptr q i):=by
    simp only[ixS];rw[if_pos ⟨by omega,by omega⟩];simp
   have i2:ixS 1 (.slice (some ⟨r,0,none⟩) 3 3) (.int .i64 (i:Nat))=some (Ptr r i):=by
    simp only[ixS];rw[if_pos ⟨by omega,by omega⟩];simp
   have hge:¬ ((i:Int)>=3):=by omega
   simp only[i1,i2,zAa,zJZ,e3,zQD a h1,zQD b h2,zAG,zC9,zAl,hinc,hge,zA5,zAe,zAd,zAL,zAR,zAt,zAl,zAa,if_true,if_false,zAb,zAc,decide_true,decide_false,reduceCtorEq,zBN,zEy,zEz,zEv,zEw,zEx,zBt,zA7]
   refine zAM zAdi ?_
   rintro _ _ ⟨rfl,rfl⟩
   simp only[zAG,zC9,zAa,zAl,bne_iff_ne,ne_eq,zKm.zero]
   by_cases hxy:x=y
   ·subst hxy
    rw[if_neg (by simp)]
    exact hk _ _ ⟨i+1,by omega,rfl,zX9 ht h1 h2,rfl⟩ (by show 3-(i+1)<3-i;omega)
   ·rw[if_pos hxy,zAaX ht h1 h2 hxy]
    exact⟨by trivial,by trivial⟩
  ·rw[if_neg hlt]
   rw[zAs (by omega),zAs (by omega)]at ht
   exact hk3 _ _ ⟨ht,rfl⟩
 rintro _ _ ⟨hp,rfl⟩
 rw[zJZ,zAa,zJZ,zAa]
 have e3:((3:Nat):Int)=3:=rfl
 have e4:¬ ((3:Int)<3):=by omega
 simp only[zAG,zC9,zAa,zAl,e3,e4,zA5,zAe,zAd,zAL,zAR,zAt,zAl,zAa,if_true,if_false,zAb,zAc,decide_true,decide_false,reduceCtorEq,zBN,zEy,zEz,zEv,zEw,zEx,zBt,zA7]
 exact⟨by rw[(zX4.zero _ _).2 hp],by trivial⟩
theorem zVM {args:Array Value}:xtV prg zD4 args=Extern.BytealgCompare.compare args:=by kernel_rfl
theorem zRL {H:zAw}{a b:List UInt8}:zAA prg zFZ [str a,str b] H λu H'=>u = .int .i64 (zMA a b)/\H=H':=by
 apply zNg
 unfold zMr
 refine zAM (R:=λu H'=>u = .int .i64 (zMA a b)/\H=H') ?_ λu h hR=>hR
 apply zHp
 unfold zFD
 intro w hw
 refine⟨_,w,by rw[zVM];exact Lib.run_compareString _ _ w,zIU.rfl' w,?_,hw.symm⟩
 rw[<- zYa]
theorem zAhS {H:zAw}{v w:Ver}(hv:v.wf)(hw:w.wf):zAA prg zFx [.agg (zEt v).toArray,.agg (zEt w).toArray] H λu H'=>u = .int .i64 (zAcr v w)/\Keep zAK H H':=by
 apply zLo
 unfold zJA
 simp only[zB7,zBd]
 generalize hH1:H.push (.cells (zEt v).toArray zAQ (0,0))=H1
 have k1:Keep zAK H H1:=by rw[<- hH1];exact Keep.push
 have a1:At H1 H.size (zEt v):=by rw[<- hH1];exact At.push
 generalize hH2:H1.push (.cells (zEt w).toArray zAQ (0,0))=H2
 have k2:Keep zAK H1 H2:=by rw[<- hH2];exact Keep.push
 have b1:At H2 H1.size (zEt w):=by rw[<- hH2];exact At.push
 have a2:=a1.keep k2 id
 have kk:=k1.trans k2
 have sl:∀ q:Nat,slA 3 1 (Ptr q 0) none none none=some (.slice (some ⟨q,0,none⟩) 3 3):=λq=>by simp[slA,zMj,bnd]
 have e1:zR1 .eql ⟨v.pre.toArray⟩ ⟨#[]⟩=some (.bool (decide (v.pre=[]))):=zPN (b:=[])
 have e2:zR1 .eql ⟨w.pre.toArray⟩ ⟨#[]⟩=some (.bool (decide (w.pre=[]))):=zPN (b:=[])
 simp only[zBk,zAa,zAh,sl]
 refine zAM (zW2 hv hw a2 b1) ?_
 rintro _ _ ⟨rfl,rfl⟩
 have bb:∀ x y:Bool,zAB .bool .neq (.bool x) (.bool y)=some (.bool (x != y)):=λx y=>by cases x<;>cases y<;>rfl
 unfold zAcr
 have hne:((zTU v.p w.p != 0)=true)=(zTU v.p w.p≠0):=by simp
 simp only[zAG,zC9,zAa,zAl,hne]
 by_cases hz:zTU v.p w.p≠0
 ·rw[if_pos hz,if_pos hz]
  exact⟨by trivial,kk⟩
 ·rw[if_neg hz,if_neg hz]
  unfold zAhR
  cases hx:decide (v.pre=[])<;>cases hy:decide (w.pre=[])<;>simp only[zA5,zAe,zAd,zAL,zAR,zAt,zAl,zAa,if_true,if_false,zAb,zAc,decide_true,decide_false,reduceCtorEq,zBN,zEy,zEz,zEv,zEw,zEx,zBt,zA7,zBk,zAh,zAaW a2 hv,zAaW b1 hw,zGw,e1,e2,hx,hy,bb,bne_self_eq_false,Bool.bne_true,Bool.bne_false]<;>exact zRL.mono λu h ⟨e,hh⟩=>⟨e,hh ▸ kk⟩
theorem zW3 {a b:List UInt8}{q:EqK}(h:a.length+b.length<=9223372036854775807):zAB q .add (str a) (str b)=some (str (a++b)):=by rw[zGw];exact zUu h
theorem zDx {a b:List UInt8}{q:EqK}:zAB q .eql (str a) (str b)=some (.bool (decide (a=b))):=by rw[zGw];exact zPN
theorem zUG {a b:List UInt8}{q:EqK}:zAB q .neq (str a) (str b)=some (.bool (!decide (a=b))):=by rw[zGw];exact zWN
theorem ix0 {q:Nat}:ixA 3 1 (Ptr q 0) (.int .i64 0)=some (Ptr q 0):=zSJ (i:=0) (by omega)
def zAhT:List (List UInt8):=[[61],[33,61],[60],[60,61],[62],[62,61],[94]]
def vp0 (v:Ver):Int:=v.p.getD 0 0
def vp1 (v:Ver):Int:=v.p.getD 1 0
def zPY (op:List UInt8)(w v:Ver):Bool :=
 bif decide (op=[61]) then !ltV v w && !ltV w v else
 bif decide (op=[33,61]) then ltV v w || ltV w v else
 bif decide (op=[60]) then ltV v w else
 bif decide (op=[60,61]) then !ltV w v else
 bif decide (op=[62]) then ltV w v else
 bif decide (op=[62,61]) then !ltV v w else
 bif decide (op=[94]) then !ltV v w&&(vp0 v == vp0 w)&&(vp0 w != 0 || vp1 v == vp1 w) else true
theorem _root_.Go.X.L0_i {body:(zAw->Prop)->zAw->Prop}{H:zAw}(I:zAw->Prop)(μ:zAw->Nat)(h0:I H)
  (hs:∀ h,I h->∀ k:zAw->Prop,(∀ h',I h'->μ h'<μ h->k h')->body k h):L0 body H:=by
 refine⟨λvs h=>vs=[]/\I h,λ_ h=>μ h,⟨rfl,h0⟩,?_⟩
 rintro vs h _ ⟨rfl,hI⟩
 exact hs h hI _ λh' hI' hm=>⟨⟨rfl,hI'⟩,hm⟩
theorem zBU {n:Nat}(h:n<=1099511627776):zAB .no .add (.int .i64 (n:Nat)) (.int .i64 1)=some (.int .i64 ((n+1:Nat):Int)):=by
 rw[zAG];simp only[zC9];rw[zB8 (by omega) (by omega)];rfl
theorem zAdj {n:Nat}:zAB .no .lss (.int .i64 (n:Nat)) (.int .i64 0)=some (.bool false):=by
 rw[zAG];simp only[zC9];rw[decide_eq_false (by omega)]
theorem zAf4:zAB .no .lss (.int .i64 (-1)) (.int .i64 0)=some (.bool true):=rfl
theorem zAdk {n:Nat}:zAB .no .geq (.int .i64 (n:Nat)) (.int .i64 0)=some (.bool true):=by
 rw[zAG];simp only[zC9];rw[decide_eq_true (by omega)]
theorem zVN {H:zAw}{l:List UInt8}{x:UInt8}:zAA prg zC5 [str l,.int .u8 x.toNat] H λu H'=>u = .int .i64 (Lib.indexByte l x)/\H=H':=by
 apply zEC
 unfold zD8
 intro w hw
 refine⟨_,w,by rw[zMy];exact Lib.run_indexByteString _ _ w,zIU.rfl' w,?_,hw.symm⟩
 simp
theorem zYb {H:zAw}{l:List UInt8}{c:UInt8}:zAA prg zDU [str l,str [c]] H λu H'=>u = .int .i64 (Lib.indexByte l c)/\H=H':=by
 apply zIx
 unfold zGH
 have e1:zLd (str [c])=some (.int .i64 1):=rfl
 have e2:zAB .no .eql (.int .i64 1) (.int .i64 0)=some (.bool false):=rfl
 have e3:zAB .no .eql (.int .i64 1) (.int .i64 1)=some (.bool true):=rfl
 have e4:ixT (str [c]) (.int .i64 0)=some (.int .u8 c.toNat):=zMO (i:=0) rfl
 have e5:=λq=>zDx (q:=q) (a:=[c]) (b:=l)
 cases hx:decide ([c]=l)<;>simp only[e1,e2,e3,e4,e5,hx,zA5,zAe,zAd,zAL,zAR,zAt,zAl,zAa,if_true,if_false,zAb,zAc,decide_true,decide_false,reduceCtorEq,zBN,zEy,zEz,zEv,zEw,zEx,zBt,zA7]
 ·exact zAM zVN λu h hR=>hR
 ·have:l=[c]:=(of_decide_eq_true hx).symm
  subst this
  refine⟨?_,by trivial⟩
  simp[Lib.indexByte]
theorem zAdl {H:zAw}{l:List UInt8}{c:UInt8}:zAA prg zLG [str l,str [c]] H λu H'=>u = .int .i64 (Lib.indexByte l c)/\H=H':=by
 apply zOh
 unfold zN3
 exact zAM zYb λu h hR=>hR
theorem zAf5 {l:List UInt8}{o:Nat}(h:o<=l.length):slT (str l) none (some (.int .i64 (o:Nat)))=some (str (l.take o)):=by
 have:=zQ9 (l:=l) (lo:=0) (hi:=o) (a:=none) (b:=some (.int .i64 (o:Nat))) (zAz _) h rfl (by simp[bnd,h])
 rwa [zCb]at this
theorem zUH {l:List UInt8}{o:Nat}(h:o<=l.length):slT (str l) (some (.int .i64 (o:Nat))) none=some (str (l.drop o)):=by
 have:=zQ9 (l:=l) (lo:=o) (hi:=l.length) (a:=some (.int .i64 (o:Nat))) (b:=none) h (zAi _) (by simp[bnd,h]) rfl
 rwa [zBx]at this
theorem zAhU {H:zAw}{l:List UInt8}{c:UInt8}(hl:l.length<=1099511627776):zAA prg zFr [str l,str [c]] H λu H'=>(∃ b:Bool,u = .tuple #[str (zUD c l),str (zWv c l),.bool b])/\H=H':=by
 apply zJg
 unfold zHq
 refine zAM zYb ?_
 rintro _ _ ⟨rfl,rfl⟩
 rcases zST l c with he|⟨o,he⟩
 ·rw[he]
  have e1:zAB .no .geq (.int .i64 (-1)) (.int .i64 0)=some (.bool false):=rfl
  obtain⟨h1,h2⟩:=zX6 (zTV he)
  simp only[e1,zA5,zAe,zAd,zAL,zAR,zAt,zAl,zAa,if_true,if_false,zAb,zAc,decide_true,decide_false,reduceCtorEq,zBN,zEy,zEz,zEv,zEw,zEx,zBt,zA7]
  exact⟨⟨false,by rw[h1,h2]⟩,by trivial⟩
 ·rw[he]
  obtain⟨hlt,hni,hsp⟩:=zTW he
  have e2:zLd (str [c])=some (.int .i64 1):=rfl
  have e4:=zBU (n:=o) (by omega)
  have e5:=zAdk (n:=o)
  simp only[e5,e2,e4,zAf5 (Nat.le_of_lt hlt),zUH (show o+1<=l.length by omega),zA5,zAe,zAd,zAL,zAR,zAt,zAl,zAa,if_true,if_false,zAb,zAc,decide_true,decide_false,reduceCtorEq,zBN,zEy,zEz,zEv,zEw,zEx,zBt,zA7]
  refine⟨⟨true,?_⟩,by trivial⟩
  have:=zX7 (c:=c) (b:=l.drop (o+1)) hni
  rw[<- hsp]at this
  rw[this.1,this.2]
theorem zAjH {H:zAw}{l:List UInt8}{c:UInt8}(hl:l.length<=1099511627776):zAA prg zNF [str l,str [c]] H λu H'=>(∃ b:Bool,u = .tuple #[str (zUD c l),str (zWv c l),.bool b])/\H=H':=by
 apply zPl
 unfold zPv
 refine zAM (zAhU hl) ?_
 rintro _ _ ⟨⟨b,rfl⟩,rfl⟩
 simp only[zA5,zAe,zAd,zAL,zAR,zAt,zAl,zAa,if_true,if_false,zAb,zAc,decide_true,decide_false,reduceCtorEq,zBN,zEy,zEz,zEv,zEw,zEx,zBt,zA7]
 exact⟨⟨b,rfl⟩,by trivial⟩
theorem zSU {H:zAw}{l p:List UInt8}:zAA prg zEj [str l,str p] H λu H'=>u = .bool (decide (p.length<=l.length)&&decide (l.take p.length=p))/\H=H':=by
 apply zHr
 unfold zFE
 have e0:zAB .no .geq (.int .i64 (l.length:Nat)) (.int .i64 (p.length:Nat))=some (.bool (decide (p.length<=l.length))):=by
  rw[zAG];simp only[zC9];congr 2;rw[decide_eq_decide];omega
 simp only[zEL,zAa,e0]
 cases hx:decide (p.length<=l.length)<;>simp only[zA5,zAe,zAd,zAL,zAR,zAt,zAl,zAa,if_true,if_false,zAb,zAc,decide_true,decide_false,reduceCtorEq,zBN,zEy,zEz,zEv,zEw,zEx,zBt,zA7,zAV]
 ·trivial
 ·have:=of_decide_eq_true hx
  simp only[zAf5 this,zDx,zA5,zAe,zAd,zAL,zAR,zAt,zAl,zAa,if_true,if_false,zAb,zAc,decide_true,decide_false,reduceCtorEq,zBN,zEy,zEz,zEv,zEw,zEx,zBt,zA7,zA9]
  trivial
structure zPZ (qs qp qn:Nat)(l:List UInt8)(c:UInt8)(h:zAw):Prop where
 s:At h qs [str l]
 p:At h qp [str [c]]
 n:At h qn [.int .i64 0]
 ne:qs≠qp/\qs≠qn
theorem zTX {qs qp qn:Nat}{l:List UInt8}{c:UInt8}(hl:l.length<=1099511627776) :
  zAku prg (.func (.func zDB) #[] #[Ptr qp 0,Ptr qs 0,Ptr qn 0]) ((zDJ c l).map λx=>[str x]) (λb=>b=qs\/b=qp\/b=qn) (zPZ qs qp qn l c):=by
 intro yv h0 J E hst hJ hbody sJ sE
 refine⟨zDB,#[],#[Ptr qp 0,Ptr qs 0,Ptr qn 0],rfl,by kernel_rfl,?_⟩
 show zAA prg zDB [yv,Ptr qp 0,Ptr qs 0,Ptr qn 0] h0 _
 apply zLS
 unfold zKu
 have e1:zLd (str [c])=some (.int .i64 1):=rfl
 have e2:zAB .no .eql (.int .i64 1) (.int .i64 0)=some (.bool false):=rfl
 refine zAhd (λh=>h0=h) (λk hk=>?_) ?_
 ·have:=hst.p.ld (i:=0) rfl
  simp only[this,zAa,e1,e2,zAl,zAb,if_false]
  exact hk _ rfl
 rintro _ rfl
 have hn:((zDJ c l).map λx=>[str x]).length=(zDJ c l).length:=by simp
 rw[hn]
 let I:zAw->Prop:=λh=>∃ (pre:List (List UInt8)) (rest:List UInt8),zDJ c l=pre++zDJ c rest/\rest.length<=l.length/\zPZ qs qp qn rest c h/\J pre.length h
 let fin:zAw->Prop:=λh=>∃ (pre:List (List UInt8)) (rest:List UInt8),zDJ c l=pre++[rest]/\zPZ qs qp qn rest c h/\J pre.length h
 refine zAhd fin (λk hk=>?_) ?_
 ·refine L0_i I (λh=>match ld1 h (Ptr qs 0) with|some (.string s)=>s.size|_=>0) ⟨[],l,rfl,zAi _,hst,hJ⟩ ?_
  rintro h ⟨pre,rest,hsp,hle,hs,hJ⟩ k2 hk2
  have d1:=hs.s.ld (i:=0) rfl
  have d2:=hs.p.ld (i:=0) rfl
  have d3:=hs.n.ld (i:=0) rfl
  simp only[d1,d2,zAa]
  refine zAM zAdl ?_
  rintro _ _ ⟨rfl,rfl⟩
  rcases zST rest c with he|⟨o,he⟩
  ·rw[he,zAf4,zAa,zAl,if_pos rfl]
   refine hk _ ⟨pre,rest,?_,hs,hJ⟩
   rw[hsp,zPV (zTV he)]
  ·obtain⟨hlt,hni,hre⟩:=zTW he
   have hsr:zDJ c rest=rest.take o::zDJ c (rest.drop (o+1)):=by
    conv=>lhs;rw[hre]
    exact zNQ hni
   have e3:zAB .no .add (.int .i64 (o:Nat)) (.int .i64 0)=some (.int .i64 (o:Nat)):=by
    rw[zAG];simp only[zC9];rw[zB8 (by omega) (by omega)];simp
   rw[he,zAdj,zAa,zAl,if_neg (by decide)]
   simp only[d1,d3,zAa,e3,zAf5 (Nat.le_of_lt hlt)]
   have hget:((zDJ c l).map λx=>[str x])[pre.length]? = some [str (rest.take o)]:=by
    rw[zAq,hsp,hsr,zA6 (zAi _),Nat.sub_self];rfl
   refine(hbody _ _ _ hget hJ).mono ?_
   rintro v h' ⟨hsz,hS,hv⟩
   have keepA:∀ {q cs},(q=qs\/q=qp\/q=qn)->At h q cs->At h' q cs:=λ{q cs} hq ⟨T,a⟩=>⟨T,by rw[hS q hq (lt_of a)];exact a⟩
   have s':=keepA (.inl rfl) hs.s
   have p':=keepA (.inr (.inl rfl)) hs.p
   have n':=keepA (.inr (.inr rfl)) hs.n
   rcases hv with ⟨rfl,hJ'⟩|⟨rfl,hE⟩
   ·have d1':=s'.ld (i:=0) rfl
    have d2':=p'.ld (i:=0) rfl
    have e4:=zBU (n:=o) (by omega)
    obtain⟨h2,hst2,a2,k2'⟩:=s'.st1 (i:=0) (v:=str (rest.drop (o+1))) (by simp) rfl
    simp only[zA5,zAe,zAa,zAl,zAb,if_false,d1',d2',e1,e4,zUH (show o+1<=rest.length by omega),hst2,zA0]
    refine hk2 _ ⟨pre++[rest.take o],rest.drop (o+1),by rw[hsp,hsr];simp,by simp;omega,⟨a2,p'.keep k2' (λe=>hs.ne.1 e.symm),n'.keep k2' (λe=>hs.ne.2 e.symm),hs.ne⟩,?_⟩ ?_
    ·rw[zAy]
     exact sJ _ _ _ hJ' (k2'.mono λb _ hb => .inl hb)
    ·have:=a2.ld (i:=0) (v:=str (rest.drop (o+1))) rfl
     rw[this,d1]
     simp only[zIt,zCN];omega
   ·simp only[zA5,zAd,zAa,zAl,if_true]
    exact .inr hE
 ·rintro h ⟨pre,rest,hsp,hs,hJ⟩
  have d1:=hs.s.ld (i:=0) rfl
  rw[d1,zAa]
  have hget:((zDJ c l).map λx=>[str x])[pre.length]? = some [str rest]:=by
   rw[zAq,hsp,zA6 (zAi _),Nat.sub_self];rfl
  refine(hbody _ _ _ hget hJ).mono ?_
  rintro v h' ⟨hsz,hS,hv⟩
  rcases hv with ⟨rfl,hJ'⟩|⟨rfl,hE⟩
  ·left
   rw[hsp,zAy];exact hJ'
  ·exact .inr hE
theorem zTY {H:zAw}{l:List UInt8}{c:UInt8}:zAA prg zGW [str l,str [c]] H λu H' =>
  ∃ qs qp qn,u = .func (.func zDB) #[] #[Ptr qp 0,Ptr qs 0,Ptr qn 0]/\zPZ qs qp qn l c H'/\(∀ b,(b=qs\/b=qp\/b=qn)->H.size<=b/\b<H'.size)/\Keep zAK H H':=by
 apply zMR
 unfold zLQ
 refine zAM (R:=λu H'=>∃ qs qp qn,u = .func (.func zDB) #[] #[Ptr qp 0,Ptr qs 0,Ptr qn 0]/\zPZ qs qp qn l c H'/\(∀ b,(b=qs\/b=qp\/b=qn)->H.size<=b/\b<H'.size)/\Keep zAK H H') ?_ λu h hR=>hR
 apply zMS
 unfold zLR
 have c1:Value.cells (str l)=[str l].toArray:=rfl
 have c2:Value.cells (str [c])=[str [c]].toArray:=rfl
 have c3:Value.cells (.int .i64 0)=[Value.int .i64 0].toArray:=rfl
 simp only[zBd,c1,c2,c3]
 generalize hH1:H.push (.cells [str l].toArray zBW (0,0))=H1
 have k1:Keep zAK H H1:=by rw[<- hH1];exact Keep.push
 have a1:At H1 H.size [str l]:=by rw[<- hH1];exact At.push
 have s1:H1.size=H.size+1:=by rw[<- hH1];simp
 generalize hH2:H1.push (.cells [str [c]].toArray zBW (0,0))=H2
 have k2:Keep zAK H1 H2:=by rw[<- hH2];exact Keep.push
 have a2:At H2 H1.size [str [c]]:=by rw[<- hH2];exact At.push
 have s2:H2.size=H1.size+1:=by rw[<- hH2];simp
 generalize hH3:H2.push (.cells [Value.int .i64 0].toArray zHb (0,0))=H3
 have k3:Keep zAK H2 H3:=by rw[<- hH3];exact Keep.push
 have a3:At H3 H2.size [.int .i64 0]:=by rw[<- hH3];exact At.push
 have s3:H3.size=H2.size+1:=by rw[<- hH3];simp
 refine⟨H.size,H1.size,H2.size,rfl,⟨(a1.keep k2 id).keep k3 id,a2.keep k3 id,a3,by omega,by omega⟩,?_,k1.trans (k2.trans k3)⟩
 intro b hb
 omega
end Go.Proofs.YticdfkoncnnmmaaGreatDoor
