import Derived.Test.YticdfkoncnnmmaaGreatDoorH1
set_option linter.unusedSimpArgs false
set_option linter.unusedVariables false
set_option maxRecDepth 100000
set_option linter.unusedSectionVars false
namespace Go.Proofs.YticdfkoncnnmmaaGreatDoor
open Go.X Go.X.Diff
open Go.Sort (swp PermIn SortedIn Below SWO)
section
variable {S:zLz} {α:Type} [Inhabited α] {lt:α->α->Bool} {enc:α->List Value} {evv:α->Value} {G:zAx->Prop} {F:zA1} {v:Value}
set_option maxHeartbeats 2000000 in
theorem zAkF (C:zNW S)(ok:zIW S enc evv lt G F v){H:zAx}{d:Array α}(hv:zFT S.n F H v enc d)(hG:∀ h,Keep F H h->G h){a b:Nat}(hb:b<=d.size)(hs:d.size<=1000000000)(hab:a<=b) :
  zAA prg S.fIns ([v,.int .i64 (a:Nat),.int .i64 (b:Nat)]++S.ex) H λu H'=>zFT S.n F H' v enc (Sort.insertionSort lt d a b)/\Keep F H H':=by
 refine C.ins ?_
 unfold zAm3
 rw[zBV (by omega),zAa]
 refine zKj (λu h=>∃ (i:Nat) (d':Array α),u = .int .i64 (i:Nat)/\a+1<=i/\d'.size=d.size/\Sort.insOuter lt a b i d'=Sort.insertionSort lt d a b/\zFT S.n F h v enc d'/\Keep F H h) (λu _=>match u with | .int _ t=>b-t.toNat|_=>0) ⟨a+1,d,rfl,zAh _,rfl,rfl,hv,Keep.refl⟩ ?_
 rintro _ h2 ⟨i,d',rfl,hai,hsz,hins,hr,kh⟩ k1 hk1
 rw[zNZ,zAa,zAl]
 rw[Sort.insOuter]at hins
 by_cases hlt:i<b
 rotate_left
 ·rw[if_neg (by simpa using hlt)]
  rw[if_neg hlt]at hins
  rw[<- hins];exact⟨hr,kh⟩
 rw[if_pos (by simpa using hlt)]
 rw[if_pos hlt]at hins
 refine zMk (λ_ _ h=>∃ d2:Array α,d2=Sort.insInner lt a i d'/\d2.size=d.size/\zFT S.n F h v enc d2/\Keep F H h) (λk3 hk3=>?_) ?_
 rotate_left
 ·rintro _ _ h4 ⟨d2,rfl,hs2,hr2,k4⟩
  rw[zBV (by omega),zAa]
  exact hk1 _ _ ⟨i+1,_,rfl,by omega,hs2,hins,hr2,k4⟩ (by show b-(i+1)<b-i;omega)
 refine zKj (λu h=>∃ (j:Nat) (d2:Array α),u = .int .i64 (j:Nat)/\j<=i/\d2.size=d.size/\Sort.insInner lt a j d2=Sort.insInner lt a i d'/\zFT S.n F h v enc d2/\Keep F H h) (λu _=>match u with | .int _ t=>t.toNat|_=>0) ⟨i,d',rfl,zAh _,hsz,rfl,hr,kh⟩ ?_
 rintro _ h6 ⟨j,d2,rfl,hji,hs2,hin,hr2,k6⟩ k5 hk5
 rw[zAbu,zAa]
 by_cases hja:j > a
 rotate_left
 ·rw[decide_eq_false hja]
  refine zId (by decide) ?_
  refine zLY.2 ?_
  rw[zAl,if_neg (by decide)]
  refine hk3 _ _ _ ⟨d2,?_,hs2,hr2,k6⟩
  rw[<- hin]
  cases j with
  | zero=>rfl
  | succ j=>rw[Sort.insInner,decide_eq_false hja,zA2,if_neg (by decide)]
 obtain⟨j,rfl⟩:∃ j',j=j'+1:=⟨j-1,by omega⟩
 rw[decide_eq_true hja]
 refine zDo rfl ?_
 obtain⟨p,hp,lp⟩:=ok.get hr2 (i:=j+1) (by omega)
 obtain⟨q,hq,lq⟩:=ok.get hr2 (i:=j) (by omega)
 have es:zAB .no .sub (.int .i64 ((j+1:Nat):Int)) (.int .i64 1)=some (.int .i64 (j:Nat)):=zX0 (by omega)
 simp only[hp .i64,lp,es,hq .i64,lq,zAa]
 refine ok.cmp (hG _ k6) λh8 k8=>?_
 have hr8:=hr2.keep k8 λ_ _=>id
 refine zNV.2 ?_
 rw[zAl]
 rw[Sort.insInner,decide_eq_true hja,zBa]at hin
 cases hc1:lt d2[j+1]! d2[j]!
 ·rw[if_neg (by decide)]
  rw[hc1,if_neg (by decide)]at hin
  exact hk3 _ _ _ ⟨d2,hin,hs2,hr8,k6.trans (k8.mono λ_ _ h=>h.elim)⟩
 rw[if_pos rfl]
 rw[hc1,if_pos rfl]at hin
 obtain⟨p1,q1,H1,H2,e1,e2,l1,l2,w1,w2,hrs,ks⟩:=ok.swap hr8 (i:=j+1) (j:=j) (by omega) (by omega)
 obtain rfl:=zAN ((hp .i64).symm.trans (e1 .i64))
 obtain rfl:=zAN ((hq .i64).symm.trans (e2 .i64))
 simp only[es,hp .i64,hq .i64,l1,l2,w1,w2,zAa,zAW]
 exact hk5 _ _ ⟨j,_,rfl,by omega,by rw[Sort.size_swp];exact hs2,hin,hrs,(k6.trans (k8.mono λ_ _ h=>h.elim)).trans ks⟩ (by show j<j+1;omega)
theorem zX5 {hi first root:Nat}{d:Array α}(h:¬ 2*root+1>=hi):∃ c,c<hi/\root<c/\c=(if 2*root+1+1<hi&&lt d[first+(2*root+1)]! d[first+(2*root+1)+1]! then 2*root+1+1 else 2*root+1) /\
  Sort.siftDown lt hi first root d=(if !lt d[first+root]! d[first+c]! then d else Sort.siftDown lt hi first c (swp d (first+root) (first+c))):=by
 by_cases h1:(2*root+1+1<hi&&lt d[first+(2*root+1)]! d[first+(2*root+1)+1]!)=true
 ·refine⟨2*root+2,?_,by omega,by rw[if_pos h1],?_⟩
  ·simp at h1;omega
  ·rw[Sort.siftDown,dif_neg h,if_pos h1]
   have h2:2*root+2<hi:=by simp at h1;omega
   rw[dif_pos h2]
 ·refine⟨2*root+1,by omega,by omega,by rw[if_neg h1],?_⟩
  rw[Sort.siftDown,dif_neg h,if_neg h1]
theorem zX6 {hi first:Nat}:∀ (n root:Nat) (d:Array α),hi-root<=n->(Sort.siftDown lt hi first root d).size=d.size:=by
 intro n
 induction n with
 | zero =>
  intro root d h
  rw[Sort.siftDown,dif_pos (by omega)]
 | succ n ih =>
  intro root d h
  by_cases h1:2*root+1>=hi
  ·rw[Sort.siftDown,dif_pos h1]
  ·obtain⟨c,h2,h3,_,h4⟩:=zX5 (lt:=lt) (first:=first) (d:=d) h1
   rw[h4]
   split
   ·rfl
   ·rw[ih c _ (by omega),Sort.size_swp]
set_option maxHeartbeats 2000000 in
theorem zAdE (C:zNW S)(ok:zIW S enc evv lt G F v){H:zAx}{d:Array α}(hv:zFT S.n F H v enc d)(hG:∀ h,Keep F H h->G h){lo hi first:Nat}(hb:first+hi<=d.size)(hs:d.size<=1000000000)(hlo:lo<=hi) :
  zAA prg S.fSift ([v,.int .i64 (lo:Nat),.int .i64 (hi:Nat),.int .i64 (first:Nat)]++S.ex) H λu H'=>zFT S.n F H' v enc (Sort.siftDown lt hi first lo d)/\Keep F H H':=by
 refine C.sift ?_
 unfold zAkB
 refine zKj (λu h=>∃ (root:Nat) (d':Array α),u = .int .i64 (root:Nat)/\root<=hi/\d'.size=d.size/\Sort.siftDown lt hi first root d'=Sort.siftDown lt hi first lo d/\zFT S.n F h v enc d'/\Keep F H h) (λu _=>match u with | .int _ t=>hi-t.toNat|_=>0) ⟨lo,d,rfl,hlo,rfl,rfl,hv,Keep.refl⟩ ?_
 rintro _ h2 ⟨root,d',rfl,hrh,hsz,hins,hr,kh⟩ k1 hk1
 rw[zAmi (by omega),zAa,zBV (by omega),zAa,zU5,zAa,zAl]
 by_cases hge:2*root+1>=hi
 ·rw[if_pos (by simpa using hge)]
  rw[Sort.siftDown,dif_pos hge]at hins
  rw[<- hins];exact⟨hr,kh⟩
 rw[if_neg (by simpa using hge)]
 obtain⟨c,hch,hrc,hce,hst⟩:=zX5 (lt:=lt) (first:=first) (d:=d') hge
 rw[hst]at hins
 refine zMk (λu _ h=>u = .int .i64 (c:Nat)/\zFT S.n F h v enc d'/\Keep F H h) (λk3 hk3=>?_) ?_
 ·rw[zBV (by omega),zAa,zNZ,zAa]
  by_cases h2l:2*root+1+1<hi
  rotate_left
  ·rw[decide_eq_false h2l]
   refine zId (by decide) ?_
   refine zLY.2 ?_
   rw[zAl,if_neg (by decide)]
   rw[decide_eq_false h2l,zA2,if_neg (by decide)]at hce
   exact hk3 _ _ _ ⟨by rw[hce],hr,kh⟩
  rw[decide_eq_true h2l]
  refine zDo rfl ?_
  obtain⟨p,hp,lp⟩:=ok.get hr (i:=first+(2*root+1)) (by omega)
  obtain⟨q,hq,lq⟩:=ok.get hr (i:=first+(2*root+1)+1) (by omega)
  have ea:zAB .no .add (.int .i64 (first:Nat)) (.int .i64 ((2*root+1:Nat):Int))=some (.int .i64 ((first+(2*root+1):Nat):Int)):=zWL (by omega)
  have eb:zAB .no .add (.int .i64 ((first+(2*root+1):Nat):Int)) (.int .i64 1)=some (.int .i64 ((first+(2*root+1)+1:Nat):Int)):=zBV (by omega)
  simp only[ea,eb,hp .i64,lp,hq .i64,lq,zAa]
  refine ok.cmp (hG _ kh) λh8 k8=>?_
  refine zNV.2 ?_
  rw[zAl]
  rw[decide_eq_true h2l,zBa]at hce
  have kh8:=kh.trans (k8.mono λ_ _ h=>h.elim)
  have hr8:=hr.keep k8 λ_ _=>id
  cases hc1:lt d'[first+(2*root+1)]! d'[first+(2*root+1)+1]!
  ·rw[if_neg (by decide)]
   rw[hc1,if_neg (by decide)]at hce
   exact hk3 _ _ _ ⟨by rw[hce],hr8,kh8⟩
  ·rw[if_pos rfl]
   rw[hc1,if_pos rfl]at hce
   exact hk3 _ _ _ ⟨by rw[hce],hr8,kh8⟩
 rintro _ _ h4 ⟨rfl,hr4,k4⟩
 obtain⟨p,hp,lp⟩:=ok.get hr4 (i:=first+root) (by omega)
 obtain⟨q,hq,lq⟩:=ok.get hr4 (i:=first+c) (by omega)
 have ea:zAB .no .add (.int .i64 (first:Nat)) (.int .i64 (root:Nat))=some (.int .i64 ((first+root:Nat):Int)):=zWL (by omega)
 have eb:zAB .no .add (.int .i64 (first:Nat)) (.int .i64 (c:Nat))=some (.int .i64 ((first+c:Nat):Int)):=zWL (by omega)
 simp only[ea,eb,hp .i64,lp,hq .i64,lq,zAa]
 refine ok.cmp (hG _ k4) λh8 k8=>?_
 have kh8:=k4.trans (k8.mono λ_ _ h=>h.elim)
 have hr8:=hr4.keep k8 λ_ _=>id
 rw[zA7,zAa,zAl]
 cases hc1:lt d'[first+root]! d'[first+c]!
 ·rw[if_pos (by rfl)]
  rw[hc1,zAf,if_pos rfl]at hins
  rw[<- hins];exact⟨hr8,kh8⟩
 rw[if_neg (by decide)]
 rw[hc1,zAg,if_neg (by decide)]at hins
 obtain⟨p1,q1,H1,H2,e1,e2,l1,l2,w1,w2,hrs,ks⟩:=ok.swap hr8 (i:=first+root) (j:=first+c) (by omega) (by omega)
 obtain rfl:=zAN ((hp .i64).symm.trans (e1 .i64))
 obtain rfl:=zAN ((hq .i64).symm.trans (e2 .i64))
 simp only[ea,eb,hp .i64,hq .i64,l1,l2,w1,w2,zAa,zAW]
 exact hk1 _ _ ⟨c,_,rfl,by omega,by rw[Sort.size_swp];exact hsz,hins,hrs,kh8.trans ks⟩ (by show hi-c<hi-root;omega)
theorem zAna {k:Nat}:zAB .no .geq (.int .i64 ((k:Int)-1)) (.int .i64 0)=some (.bool (decide (0<k))):=by
 rw[zAJ];simp only[zC8];congr 2;rw[zAR];simp;omega
set_option maxHeartbeats 2000000 in
theorem zAiR (C:zNW S)(ok:zIW S enc evv lt G F v){H:zAx}{d:Array α}(hv:zFT S.n F H v enc d)(hG:∀ h,Keep F H h->G h){a b:Nat}(hb:b<=d.size)(hs:d.size<=1000000000)(hab:a<b) :
  zAA prg S.fHeap ([v,.int .i64 (a:Nat),.int .i64 (b:Nat)]++S.ex) H λu H'=>zFT S.n F H' v enc (Sort.heapSort lt d a b)/\Keep F H H':=by
 refine C.heap ?_
 unfold zAkC
 rw[zSW (by omega) (by omega),zAa]
 have hsub1:zAB .no .sub (.int .i64 ((b-a:Nat):Int)) (.int .i64 1)=some (.int .i64 ((b-a-1:Nat):Int)):=zL9 (by omega) (by omega)
 have hdec:∀ k:Nat,k<=2000000000->zAB .no .sub (.int .i64 (k:Nat)) (.int .i64 1)=some (.int .i64 ((k:Int)-1)):=λk hk=>by
  rw[zAJ];simp only[zC8];rw[zCe (by omega) (by omega)]
 refine zOt (λ_ h=>zFT S.n F h v enc (Sort.heapBuild lt (b-a) a ((b-a-1) / 2+1) d)/\(Sort.heapBuild lt (b-a) a ((b-a-1) / 2+1) d).size=d.size/\Keep F H h) (λk1 hk1=>?_) ?_
 ·rw[hsub1,zAa,show zAB .no .quo (.int .i64 ((b-a-1:Nat):Int)) (.int .i64 2)=some (.int .i64 (((b-a-1) / 2:Nat):Int)) from zAlx (m:=2) (by omega) (by omega),zAa]
  have hdv:(b-a-1) / 2<=b-a-1:=Nat.div_le_self _ _
  refine zKj (λu h=>∃ (k:Nat) (d':Array α),u = .int .i64 ((k:Int)-1)/\k<=(b-a-1) / 2+1/\d'.size=d.size/\Sort.heapBuild lt (b-a) a k d'=Sort.heapBuild lt (b-a) a ((b-a-1) / 2+1) d/\zFT S.n F h v enc d'/\Keep F H h) (λu _=>match u with | .int _ t=>(t+1).toNat|_=>0) ⟨(b-a-1) / 2+1,d,by congr 1;omega,zAh _,rfl,rfl,hv,Keep.refl⟩ ?_
  rintro _ h4 ⟨k,d',rfl,hk,hsz,hbl,hr,kh⟩ k3 hk3
  rw[zAna,zAa,zAl]
  cases k with
  | zero =>
   rw[if_neg (by decide)]
   have:d'=Sort.heapBuild lt (b-a) a ((b-a-1) / 2+1) d:=hbl
   refine hk1 _ _ ?_
   rw[<- this];exact⟨hr,hsz,kh⟩
  | succ k =>
   rw[if_pos (by simp),show(((k+1:Nat):Int)-1)=(k:Int) by omega]
   refine zAI (zAdE C ok hr (λh kk=>hG h (kh.trans kk)) (lo:=k) (hi:=b-a) (first:=a) (by omega) (by omega) (by omega)) ?_
   rintro _ h5 ⟨hr5,k5⟩
   rw[hdec k (by omega),zAa]
   exact hk3 _ _ ⟨k,_,rfl,by omega,by rw[zX6 _ _ _ (zAh _)];exact hsz,hbl,hr5,kh.trans k5⟩ (by show((k:Int)-1+1).toNat<(((k+1:Nat):Int)-1+1).toNat;omega)
 rintro _ h2 ⟨hr2,hs2,k2⟩
 rw[hsub1,zAa]
 refine zKj (λu h=>∃ (k:Nat) (d':Array α),u = .int .i64 ((k:Int)-1)/\k<=b-a/\d'.size=d.size/\Sort.heapPop lt a k d'=Sort.heapSort lt d a b/\zFT S.n F h v enc d'/\Keep F H h) (λu _=>match u with | .int _ t=>(t+1).toNat|_=>0) ⟨b-a,_,by congr 1;omega,zAh _,hs2,rfl,hr2,k2⟩ ?_
 rintro _ h7 ⟨k,d',rfl,hk,hsz,hbl,hr,kh⟩ k6 hk6
 rw[zAna,zAa,zAl]
 cases k with
 | zero =>
  rw[if_neg (by decide)]
  have:d'=Sort.heapSort lt d a b:=hbl
  rw[<- this];exact⟨hr,kh⟩
 | succ k =>
  rw[if_pos (by simp),show(((k+1:Nat):Int)-1)=(k:Int) by omega]
  obtain⟨p1,q1,H1,H2,e1,e2,l1,l2,w1,w2,hrs,ks⟩:=ok.swap hr (i:=a) (j:=a+k) (by omega) (by omega)
  have ea:zAB .no .add (.int .i64 (a:Nat)) (.int .i64 (k:Nat))=some (.int .i64 ((a+k:Nat):Int)):=zWL (by omega)
  simp only[ea,e1 .i64,e2 .i64,l1,l2,w1,w2,zAa,zAW]
  refine zAI (zAdE C ok hrs (λh kk=>hG h ((kh.trans ks).trans kk)) (lo:=0) (hi:=k) (first:=a) (by rw[Sort.size_swp];omega) (by rw[Sort.size_swp];omega) (by omega)) ?_
  rintro _ h5 ⟨hr5,k5⟩
  rw[hdec k (by omega),zAa]
  exact hk6 _ _ ⟨k,_,rfl,by omega,by rw[zX6 _ _ _ (zAh _),Sort.size_swp];exact hsz,hbl,hr5,(kh.trans ks).trans k5⟩ (by show((k:Int)-1+1).toNat<(((k+1:Nat):Int)-1+1).toNat;omega)
set_option maxHeartbeats 2000000 in
theorem zAkG (C:zNW S)(ok:zIW S enc evv lt G F v){H:zAx}{d:Array α}(hv:zFT S.n F H v enc d){a b:Nat}(hb:b<=d.size)(hs:d.size<=1000000000)(hab:a<b) :
  zAA prg S.fRev ([v,.int .i64 (a:Nat),.int .i64 (b:Nat)]++S.ex) H λu H'=>(∃ d',zFT S.n F H' v enc d'/\PermIn a b d d')/\Keep F H H':=by
 refine C.rev ?_
 unfold zAm4
 rw[zL9 (by omega) (by omega),zAa]
 refine zUY (λu w h=>∃ (i j:Nat) (d':Array α),u = .int .i64 (i:Nat)/\w = .int .i64 (j:Nat)/\a<=i/\j<b/\PermIn a b d d'/\zFT S.n F h v enc d'/\Keep F H h) (λ_ u _=>match u with | .int _ t=>t.toNat|_=>0) ⟨a,b-1,d,rfl,rfl,zAh _,by omega,Sort.permIn_refl _ _ _,hv,Keep.refl⟩ ?_
 rintro _ _ h2 ⟨i,j,d',rfl,rfl,hai,hjb,hP,hr,kh⟩ k1 hk1
 rw[zNZ,zAa,zAl]
 by_cases hij:i<j
 rotate_left
 ·rw[if_neg (by simpa using hij)]
  exact⟨⟨d',hr,hP⟩,kh⟩
 rw[if_pos (by simpa using hij)]
 have hsz:=hP.1
 obtain⟨p1,q1,H1,H2,e1,e2,l1,l2,w1,w2,hrs,ks⟩:=ok.swap hr (i:=i) (j:=j) (by omega) (by omega)
 have ea:zAB .no .add (.int .i64 (i:Nat)) (.int .i64 1)=some (.int .i64 ((i+1:Nat):Int)):=zBV (by omega)
 have es:zAB .no .sub (.int .i64 (j:Nat)) (.int .i64 1)=some (.int .i64 ((j-1:Nat):Int)):=zL9 (by omega) (by omega)
 simp only[ea,es,e1 .i64,e2 .i64,l1,l2,w1,w2,zAa,zAW]
 exact hk1 _ _ _ ⟨i+1,j-1,_,rfl,rfl,by omega,by omega,Sort.permIn_trans _ _ _ _ _ hP (Sort.swp_permIn d' a b i j hai (by omega) (by omega) hjb (by omega)),hrs,kh.trans ks⟩ (by show j-1<j;omega)
end
open Go.Sort (swp PermIn SortedIn Below SWO)
section
variable {S:zLz} {α:Type} [Inhabited α] {lt:α->α->Bool} {enc:α->List Value} {evv:α->Value} {G:zAx->Prop} {F:zA1} {v:Value}
set_option maxHeartbeats 1000000 in
theorem zAkH (C:zNW S)(ok:zIW S enc evv lt G F v){H0 H:zAx}{d:Array α}(hr:zFT S.n F H v enc d)(hG:∀ h,Keep F H0 h->G h)(k0:Keep F H0 H){a i j:Nat}{pa:Value}(hpa:ixS S.n v (.int .i64 (a:Nat))=some pa)(ha:a<d.size)(hj:j<d.size)(hs:d.size<=1000000000)(hi1:1<=i){rest:Value->zAm}
  (hk:∀ x h',zFT S.n F h' v enc d->Keep F H0 h'->rest (.int .i64 (Sort.scanUp (λx=>lt x d[a]!) d j i:Nat)) x h') :
  J2 (λk3=>L1 (λk5=>λt h6=>Mpu (zAB .no .leq t (.int .i64 (j:Nat))) λt34 =>
   J1 (λk7=>Mif t34 true (Mpu (ixS S.n v t) λp=>Mpu (S.ld h6 p) λx=>Mpu (S.ld h6 pa) λy=>S.call x y h6 λu h8 =>  k7 u h8) (k7 undef h6)) λt46 h9 =>
   Mpu (zBD t34 t46 (.bool false)) λt47=>Mcd t47 (Mpu (zAB .no .add t (.int .i64 1)) λt49=>k5 t49 h9) (k3 t t46 h9)) (.int .i64 (i:Nat)) H) rest:=by
 refine zMk (λu _ h=>u = .int .i64 (Sort.scanUp (λx=>lt x d[a]!) d j i:Nat)/\zFT S.n F h v enc d/\Keep F H0 h) (λk3 hk3=>?_) (λu x h ⟨e,hr,k⟩=>by subst e;exact hk x h hr k)
 refine zKj (λu h=>∃ m:Nat,u = .int .i64 (m:Nat)/\(m<=j+1\/m=i)/\Sort.scanUp (λx=>lt x d[a]!) d j m=Sort.scanUp (λx=>lt x d[a]!) d j i/\zFT S.n F h v enc d/\Keep F H0 h) (λu _=>match u with | .int _ t=>j+1-t.toNat|_=>0) ⟨i,rfl,.inr rfl,rfl,hr,k0⟩ ?_
 rintro _ h6 ⟨m,rfl,hm,hsc,hr6,k6⟩ k5 hk5
 rw[zZh,zAa]
 rw[Sort.scanUp]at hsc
 by_cases hle:m<=j
 rotate_left
 ·rw[decide_eq_false hle]
  refine zId (by decide) ?_
  refine zLY.2 ?_
  rw[zAl,if_neg (by decide)]
  rw[decide_eq_false hle,zA2,if_neg (by decide)]at hsc
  exact hk3 _ _ _ ⟨by rw[<- hsc],hr6,k6⟩
 rw[decide_eq_true hle]
 rw[decide_eq_true hle,zBa]at hsc
 refine zDo rfl ?_
 obtain⟨p,hp,lp⟩:=ok.get hr6 (i:=m) (by omega)
 obtain⟨q,hq,lq⟩:=ok.get hr6 (i:=a) ha
 obtain rfl:=zAN ((hq .i64).symm.trans hpa)
 simp only[hp .i64,lp,lq,zAa]
 refine ok.cmp (hG _ k6) λh8 k8=>?_
 have hr8:=hr6.keep k8 λ_ _=>id
 have kh8:=k6.trans (k8.mono λ_ _ h=>h.elim)
 refine zNV.2 ?_
 rw[zAl]
 cases hc1:lt d[m]! d[a]!
 ·rw[if_neg (by decide)]
  rw[hc1,if_neg (by decide)]at hsc
  exact hk3 _ _ _ ⟨by rw[<- hsc],hr8,kh8⟩
 ·rw[if_pos rfl]
  rw[hc1,if_pos rfl]at hsc
  rw[zBV (by omega),zAa]
  exact hk5 _ _ ⟨m+1,rfl,.inl (by omega),hsc,hr8,kh8⟩ (by show j+1-(m+1)<j+1-m;omega)
set_option maxHeartbeats 1000000 in
theorem zAkI (C:zNW S)(ok:zIW S enc evv lt G F v){H0 H:zAx}{d:Array α}(hr:zFT S.n F H v enc d)(hG:∀ h,Keep F H0 h->G h)(k0:Keep F H0 H){a i j:Nat}{pa:Value}(hpa:ixS S.n v (.int .i64 (a:Nat))=some pa)(ha:a<d.size)(hj:j<d.size)(hs:d.size<=1000000000)(hi1:1<=i){rest:Value->zAm}
  (hk:∀ x h',zFT S.n F h' v enc d->Keep F H0 h'->rest (.int .i64 (Sort.scanDown (λx=>!lt x d[a]!) d i j:Nat)) x h') :
  J2 (λk3=>L1 (λk5=>λt h6=>Mpu (zAB .no .leq (.int .i64 (i:Nat)) t) λt34 =>
   J1 (λk7=>Mif t34 true (Mpu (ixS S.n v t) λp=>Mpu (S.ld h6 p) λx=>Mpu (S.ld h6 pa) λy=>S.call x y h6 λu h8=>Mpu (unV .not u) λu=>k7 u h8) (k7 undef h6)) λt46 h9 =>
   Mpu (zBD t34 t46 (.bool false)) λt47=>Mcd t47 (Mpu (zAB .no .sub t (.int .i64 1)) λt49=>k5 t49 h9) (k3 t t46 h9)) (.int .i64 (j:Nat)) H) rest:=by
 refine zMk (λu _ h=>u = .int .i64 (Sort.scanDown (λx=>!lt x d[a]!) d i j:Nat)/\zFT S.n F h v enc d/\Keep F H0 h) (λk3 hk3=>?_) (λu x h ⟨e,hr,k⟩=>by subst e;exact hk x h hr k)
 refine zKj (λu h=>∃ m:Nat,u = .int .i64 (m:Nat)/\m<=j/\Sort.scanDown (λx=>!lt x d[a]!) d i m=Sort.scanDown (λx=>!lt x d[a]!) d i j/\zFT S.n F h v enc d/\Keep F H0 h) (λu _=>match u with | .int _ t=>t.toNat|_=>0) ⟨j,rfl,zAh _,rfl,hr,k0⟩ ?_
 rintro _ h6 ⟨m,rfl,hm,hsc,hr6,k6⟩ k5 hk5
 rw[zZh,zAa]
 by_cases hle:i<=m
 rotate_left
 ·rw[decide_eq_false hle]
  refine zId (by decide) ?_
  refine zLY.2 ?_
  rw[zAl,if_neg (by decide)]
  refine hk3 _ _ _ ⟨?_,hr6,k6⟩
  rw[<- hsc]
  cases m with
  | zero=>rfl
  | succ m=>rw[Sort.scanDown,decide_eq_false hle,zA2,if_neg (by decide)]
 obtain⟨m,rfl⟩:∃ m',m=m'+1:=⟨m-1,by omega⟩
 rw[decide_eq_true hle]
 rw[Sort.scanDown,decide_eq_true hle,zBa]at hsc
 refine zDo rfl ?_
 obtain⟨p,hp,lp⟩:=ok.get hr6 (i:=m+1) (by omega)
 obtain⟨q,hq,lq⟩:=ok.get hr6 (i:=a) ha
 obtain rfl:=zAN ((hq .i64).symm.trans hpa)
 simp only[hp .i64,lp,lq,zAa]
 refine ok.cmp (hG _ k6) λh8 k8=>?_
 have hr8:=hr6.keep k8 λ_ _=>id
 have kh8:=k6.trans (k8.mono λ_ _ h=>h.elim)
 rw[zA7,zAa]
 refine zNV.2 ?_
 rw[zAl]
 cases hc1:lt d[m+1]! d[a]!
 ·rw[if_pos (by rfl)]
  rw[hc1,zAf,if_pos rfl]at hsc
  rw[zX0 (by omega),zAa]
  exact hk5 _ _ ⟨m,rfl,by omega,hsc,hr8,kh8⟩ (by show m<m+1;omega)
 ·rw[if_neg (by decide)]
  rw[hc1,zAg,if_neg (by decide)]at hsc
  exact hk3 _ _ _ ⟨by rw[<- hsc],hr8,kh8⟩
set_option maxHeartbeats 1000000 in
theorem zAmj (C:zNW S)(ok:zIW S enc evv lt G F v){H0 H:zAx}{d:Array α}(hr:zFT S.n F H v enc d)(hG:∀ h,Keep F H0 h->G h)(k0:Keep F H0 H){a i j:Nat}{pa:Value}(hpa:ixS S.n v (.int .i64 (a:Nat))=some pa)(ha:a<d.size)(hj:j<d.size)(hs:d.size<=1000000000)(hi1:1<=i){rest:Value->zAm}
  (hk:∀ x h',zFT S.n F h' v enc d->Keep F H0 h'->rest (.int .i64 (Sort.scanUp (λx=>!lt d[a]! x) d j i:Nat)) x h') :
  J2 (λk3=>L1 (λk5=>λt h6=>Mpu (zAB .no .leq t (.int .i64 (j:Nat))) λt34 =>
   J1 (λk7=>Mif t34 true (Mpu (S.ld h6 pa) λx=>Mpu (ixS S.n v t) λp=>Mpu (S.ld h6 p) λy=>S.call x y h6 λu h8=>Mpu (unV .not u) λu=>k7 u h8) (k7 undef h6)) λt46 h9 =>
   Mpu (zBD t34 t46 (.bool false)) λt47=>Mcd t47 (Mpu (zAB .no .add t (.int .i64 1)) λt49=>k5 t49 h9) (k3 t t46 h9)) (.int .i64 (i:Nat)) H) rest:=by
 refine zMk (λu _ h=>u = .int .i64 (Sort.scanUp (λx=>!lt d[a]! x) d j i:Nat)/\zFT S.n F h v enc d/\Keep F H0 h) (λk3 hk3=>?_) (λu x h ⟨e,hr,k⟩=>by subst e;exact hk x h hr k)
 refine zKj (λu h=>∃ m:Nat,u = .int .i64 (m:Nat)/\(m<=j+1\/m=i)/\Sort.scanUp (λx=>!lt d[a]! x) d j m=Sort.scanUp (λx=>!lt d[a]! x) d j i/\zFT S.n F h v enc d/\Keep F H0 h) (λu _=>match u with | .int _ t=>j+1-t.toNat|_=>0) ⟨i,rfl,.inr rfl,rfl,hr,k0⟩ ?_
 rintro _ h6 ⟨m,rfl,hm,hsc,hr6,k6⟩ k5 hk5
 rw[zZh,zAa]
 rw[Sort.scanUp]at hsc
 by_cases hle:m<=j
 rotate_left
 ·rw[decide_eq_false hle]
  refine zId (by decide) ?_
  refine zLY.2 ?_
  rw[zAl,if_neg (by decide)]
  rw[decide_eq_false hle,zA2,if_neg (by decide)]at hsc
  exact hk3 _ _ _ ⟨by rw[<- hsc],hr6,k6⟩
 rw[decide_eq_true hle]
 rw[decide_eq_true hle,zBa]at hsc
 refine zDo rfl ?_
 obtain⟨p,hp,lp⟩:=ok.get hr6 (i:=m) (by omega)
 obtain⟨q,hq,lq⟩:=ok.get hr6 (i:=a) ha
 obtain rfl:=zAN ((hq .i64).symm.trans hpa)
 simp only[hp .i64,lp,lq,zAa]
 refine ok.cmp (hG _ k6) λh8 k8=>?_
 have hr8:=hr6.keep k8 λ_ _=>id
 have kh8:=k6.trans (k8.mono λ_ _ h=>h.elim)
 rw[zA7,zAa]
 refine zNV.2 ?_
 rw[zAl]
 cases hc1:lt d[a]! d[m]!
 ·rw[if_pos (by rfl)]
  rw[hc1,zAf,if_pos rfl]at hsc
  rw[zBV (by omega),zAa]
  exact hk5 _ _ ⟨m+1,rfl,.inl (by omega),hsc,hr8,kh8⟩ (by show j+1-(m+1)<j+1-m;omega)
 ·rw[if_neg (by decide)]
  rw[hc1,zAg,if_neg (by decide)]at hsc
  exact hk3 _ _ _ ⟨by rw[<- hsc],hr8,kh8⟩
set_option maxHeartbeats 1000000 in
theorem zAmk (C:zNW S)(ok:zIW S enc evv lt G F v){H0 H:zAx}{d:Array α}(hr:zFT S.n F H v enc d)(hG:∀ h,Keep F H0 h->G h)(k0:Keep F H0 H){a i j:Nat}{pa:Value}(hpa:ixS S.n v (.int .i64 (a:Nat))=some pa)(ha:a<d.size)(hj:j<d.size)(hs:d.size<=1000000000)(hi1:1<=i){rest:Value->zAm}
  (hk:∀ x h',zFT S.n F h' v enc d->Keep F H0 h'->rest (.int .i64 (Sort.scanDown (λx=>lt d[a]! x) d i j:Nat)) x h') :
  J2 (λk3=>L1 (λk5=>λt h6=>Mpu (zAB .no .leq (.int .i64 (i:Nat)) t) λt34 =>
   J1 (λk7=>Mif t34 true (Mpu (S.ld h6 pa) λx=>Mpu (ixS S.n v t) λp=>Mpu (S.ld h6 p) λy=>S.call x y h6 λu h8 =>  k7 u h8) (k7 undef h6)) λt46 h9 =>
   Mpu (zBD t34 t46 (.bool false)) λt47=>Mcd t47 (Mpu (zAB .no .sub t (.int .i64 1)) λt49=>k5 t49 h9) (k3 t t46 h9)) (.int .i64 (j:Nat)) H) rest:=by
 refine zMk (λu _ h=>u = .int .i64 (Sort.scanDown (λx=>lt d[a]! x) d i j:Nat)/\zFT S.n F h v enc d/\Keep F H0 h) (λk3 hk3=>?_) (λu x h ⟨e,hr,k⟩=>by subst e;exact hk x h hr k)
 refine zKj (λu h=>∃ m:Nat,u = .int .i64 (m:Nat)/\m<=j/\Sort.scanDown (λx=>lt d[a]! x) d i m=Sort.scanDown (λx=>lt d[a]! x) d i j/\zFT S.n F h v enc d/\Keep F H0 h) (λu _=>match u with | .int _ t=>t.toNat|_=>0) ⟨j,rfl,zAh _,rfl,hr,k0⟩ ?_
 rintro _ h6 ⟨m,rfl,hm,hsc,hr6,k6⟩ k5 hk5
 rw[zZh,zAa]
 by_cases hle:i<=m
 rotate_left
 ·rw[decide_eq_false hle]
  refine zId (by decide) ?_
  refine zLY.2 ?_
  rw[zAl,if_neg (by decide)]
  refine hk3 _ _ _ ⟨?_,hr6,k6⟩
  rw[<- hsc]
  cases m with
  | zero=>rfl
  | succ m=>rw[Sort.scanDown,decide_eq_false hle,zA2,if_neg (by decide)]
 obtain⟨m,rfl⟩:∃ m',m=m'+1:=⟨m-1,by omega⟩
 rw[decide_eq_true hle]
 rw[Sort.scanDown,decide_eq_true hle,zBa]at hsc
 refine zDo rfl ?_
 obtain⟨p,hp,lp⟩:=ok.get hr6 (i:=m+1) (by omega)
 obtain⟨q,hq,lq⟩:=ok.get hr6 (i:=a) ha
 obtain rfl:=zAN ((hq .i64).symm.trans hpa)
 simp only[hp .i64,lp,lq,zAa]
 refine ok.cmp (hG _ k6) λh8 k8=>?_
 have hr8:=hr6.keep k8 λ_ _=>id
 have kh8:=k6.trans (k8.mono λ_ _ h=>h.elim)
 refine zNV.2 ?_
 rw[zAl]
 cases hc1:lt d[a]! d[m+1]!
 ·rw[if_neg (by decide)]
  rw[hc1,if_neg (by decide)]at hsc
  exact hk3 _ _ _ ⟨by rw[<- hsc],hr8,kh8⟩
 ·rw[if_pos rfl]
  rw[hc1,if_pos rfl]at hsc
  rw[zX0 (by omega),zAa]
  exact hk5 _ _ ⟨m,rfl,by omega,hsc,hr8,kh8⟩ (by show m<m+1;omega)
set_option maxHeartbeats 4000000 in
theorem zAiS (C:zNW S)(ok:zIW S enc evv lt G F v){H:zAx}{d:Array α}(hv:zFT S.n F H v enc d)(hG:∀ h,Keep F H h->G h){a b pv:Nat}(hb:b<=d.size)(hs:d.size<=1000000000)(hap:a<=pv)(hpb:pv<b) :
  zAA prg S.fPart ([v,.int .i64 (a:Nat),.int .i64 (b:Nat),.int .i64 (pv:Nat)]++S.ex) H λu H'=>u = .tuple #[.int .i64 ((Sort.partition lt d a b pv).1:Nat),.bool (Sort.partition lt d a b pv).2.1]/\zFT S.n F H' v enc (Sort.partition lt d a b pv).2.2/\Keep F H H':=by
 refine C.part ?_
 unfold zAkE
 obtain⟨p1,q1,H1,H2,e1,e2,l1,l2,w1,w2,hrs,ks⟩:=ok.swap hv (i:=a) (j:=pv) (by omega) (by omega)
 have ea:zAB .no .add (.int .i64 (a:Nat)) (.int .i64 1)=some (.int .i64 ((a+1:Nat):Int)):=zBV (by omega)
 have eb:zAB .no .sub (.int .i64 (b:Nat)) (.int .i64 1)=some (.int .i64 ((b-1:Nat):Int)):=zL9 (by omega) (by omega)
 have ea1:=e1 .i64
 simp only[ea1,e2 .i64,l1,l2,w1,w2,ea,eb,zAa,zAW]
 clear e1 e2 l1 l2 w1 w2
 have hz1:(swp d a pv).size=d.size:=Sort.size_swp _ _ _
 have hP:∀ d1 i j,swp d a pv=d1->Sort.scanUp (λx=>lt x d1[a]!) d1 (b-1) (a+1)=i->Sort.scanDown (λx=>!lt x d1[a]!) d1 i (b-1)=j->Sort.partition lt d a b pv=if i > j then (j,true,swp d1 j a) else ((Sort.partLoop lt a (i+1) (j-1) (swp d1 i j)).1,false,swp (Sort.partLoop lt a (i+1) (j-1) (swp d1 i j)).2 (Sort.partLoop lt a (i+1) (j-1) (swp d1 i j)).1 a):=by rintro _ _ _ rfl rfl rfl;rfl
 generalize hd1:swp d a pv=d1 at hz1 hrs
 refine zAkH C ok hrs hG ks (a:=a) (j:=b-1) (i:=a+1) ea1 (by omega) (by omega) (by omega) (by omega) λx h4 hr4 k4=>?_
 have iu:=Sort.scanUp_spec (λx=>lt x d1[a]!) d1 (b-1) _ (a+1) rfl
 generalize hi:Sort.scanUp (λx=>lt x d1[a]!) d1 (b-1) (a+1)=i at iu ⊢
 obtain⟨i1,i2,_,_⟩:=iu
 have i2':=i2 (by omega)
 refine zAkI C ok hr4 hG k4 (a:=a) (j:=b-1) (i:=i) ea1 (by omega) (by omega) (by omega) (by omega) λx' h11 hr11 k11=>?_
 have ju:=Sort.scanDown_le (λx=>!lt x d1[a]!) d1 i (b-1)
 generalize hj:Sort.scanDown (λx=>!lt x d1[a]!) d1 i (b-1)=j at ju ⊢
 rw[zAbu,zAa,zAl]
 by_cases hij:i > j
 ·rw[if_pos (by simpa using hij)]
  rw[hP _ _ _ hd1 hi hj,if_pos hij]
  obtain⟨p1,q1,H1,H2,e1,e2,l1,l2,w1,w2,hrs',ks'⟩:=ok.swap hr11 (i:=j) (j:=a) (by omega) (by omega)
  obtain rfl:=zAN (ea1.symm.trans (e2 .i64))
  simp only[e1 .i64,l1,l2,w1,w2,zAa,zAW]
  exact⟨by trivial,hrs',k11.trans ks'⟩
 rw[if_neg (by simpa using hij)]
 rw[hP _ _ _ hd1 hi hj,if_neg hij]
 obtain⟨p1,q1,H1,H2,e1,e2,l1,l2,w1,w2,hr20,ks'⟩:=ok.swap hr11 (i:=i) (j:=j) (by omega) (by omega)
 have ei:zAB .no .add (.int .i64 (i:Nat)) (.int .i64 1)=some (.int .i64 ((i+1:Nat):Int)):=zBV (by omega)
 have ej:zAB .no .sub (.int .i64 (j:Nat)) (.int .i64 1)=some (.int .i64 ((j-1:Nat):Int)):=zL9 (by omega) (by omega)
 simp only[e1 .i64,e2 .i64,l1,l2,w1,w2,ei,ej,zAa,zAW]
 clear e1 e2 l1 l2 w1 w2
 have hz2:(swp d1 i j).size=d.size:=by rw[Sort.size_swp];exact hz1
 have k20:=k11.trans ks'
 generalize hd2:swp d1 i j=d2 at *
 refine J4_i (λ_ u _ _ h=>u = .int .i64 ((Sort.partLoop lt a (i+1) (j-1) d2).1:Nat)/\(Sort.partLoop lt a (i+1) (j-1) d2).1<d.size/\(Sort.partLoop lt a (i+1) (j-1) d2).2.size=d.size/\zFT S.n F h v enc (Sort.partLoop lt a (i+1) (j-1) d2).2/\Keep F H h) (λk21 hk21=>?_) ?_
 rotate_left
 ·rintro _ _ _ _ h22 ⟨rfl,hlt,hz3,hr22,k22⟩
  obtain⟨p1,q1,H1,H2,e1,e2,l1,l2,w1,w2,hr23,ks''⟩:=ok.swap hr22 (i:=(Sort.partLoop lt a (i+1) (j-1) d2).1) (j:=a) (by omega) (by omega)
  obtain rfl:=zAN (ea1.symm.trans (e2 .i64))
  simp only[e1 .i64,l1,l2,w1,w2,zAa,zAW]
  exact⟨by trivial,hr23,k22.trans ks''⟩
 refine zUY (λu w h=>∃ (i' j':Nat) (d':Array α),u = .int .i64 (i':Nat)/\w = .int .i64 (j':Nat)/\a<i'/\i'<=b/\j'<b/\d'.size=d.size/\Sort.partLoop lt a i' j' d'=Sort.partLoop lt a (i+1) (j-1) d2/\zFT S.n F h v enc d'/\Keep F H h) (λu w _=>match u,w with | .int _ t,.int _ s=>s.toNat+1-t.toNat|_,_=>0)
  ⟨i+1,j-1,d2,rfl,rfl,by omega,by omega,by omega,hz2,rfl,hr20,k20⟩ ?_
 rintro _ _ h24 ⟨i',j',d',rfl,rfl,hai,hib,hjb,hsz,hpl,hr,kh⟩ k23 hk23
 rw[Sort.partLoop_eq]at hpl
 refine zAkH C ok hr hG kh (a:=a) (j:=j') (i:=i') ea1 (by omega) (by omega) (by omega) (by omega) λy h26 hr26 k26=>?_
 have iu:=Sort.scanUp_spec (λx=>lt x d'[a]!) d' j' _ i' rfl
 generalize hi':Sort.scanUp (λx=>lt x d'[a]!) d' j' i'=i2 at *
 obtain⟨u1,u2,_,_⟩:=iu
 refine zAkI C ok hr26 hG k26 (a:=a) (j:=j') (i:=i2) ea1 (by omega) (by omega) (by omega) (by omega) λy' h33 hr33 k33=>?_
 have ju:=Sort.scanDown_le (λx=>!lt x d'[a]!) d' i2 j'
 generalize hj':Sort.scanDown (λx=>!lt x d'[a]!) d' i2 j'=j2 at *
 rw[zAbu,zAa,zAl]
 by_cases hij2:i2 > j2
 ·rw[if_pos (by simpa using hij2)]
  rw[if_pos hij2]at hpl
  refine hk21 _ _ _ _ _ ?_
  rw[<- hpl]
  exact⟨rfl,by show j2<_;omega,hsz,hr33,k33⟩
 rw[if_neg (by simpa using hij2)]
 rw[if_neg hij2]at hpl
 obtain⟨p1,q1,H1,H2,e1,e2,l1,l2,w1,w2,hr40,ks3⟩:=ok.swap hr33 (i:=i2) (j:=j2) (by omega) (by omega)
 have ei:zAB .no .add (.int .i64 (i2:Nat)) (.int .i64 1)=some (.int .i64 ((i2+1:Nat):Int)):=zBV (by omega)
 have ej:zAB .no .sub (.int .i64 (j2:Nat)) (.int .i64 1)=some (.int .i64 ((j2-1:Nat):Int)):=zL9 (by omega) (by omega)
 simp only[e1 .i64,e2 .i64,l1,l2,w1,w2,ei,ej,zAa,zAW]
 exact hk23 _ _ _ ⟨i2+1,j2-1,_,rfl,rfl,by omega,by omega,by omega,by rw[Sort.size_swp];exact hsz,hpl,hr40,k33.trans ks3⟩ (by show j2-1+1-(i2+1)<j'+1-i';omega)
set_option maxHeartbeats 4000000 in
theorem zAdF (C:zNW S)(ok:zIW S enc evv lt G F v){H:zAx}{d:Array α}(hv:zFT S.n F H v enc d)(hG:∀ h,Keep F H h->G h){a b pv:Nat}(hb:b<=d.size)(hs:d.size<=1000000000)(hap:a<=pv)(hpb:pv<b) :
  zAA prg S.fPartE ([v,.int .i64 (a:Nat),.int .i64 (b:Nat),.int .i64 (pv:Nat)]++S.ex) H λu H'=>u = .int .i64 ((Sort.partitionEqual lt d a b pv).1:Nat)/\zFT S.n F H' v enc (Sort.partitionEqual lt d a b pv).2/\Keep F H H':=by
 refine C.partE ?_
 unfold zAg7
 obtain⟨p1,q1,H1,H2,e1,e2,l1,l2,w1,w2,hrs,ks⟩:=ok.swap hv (i:=a) (j:=pv) (by omega) (by omega)
 have ea:zAB .no .add (.int .i64 (a:Nat)) (.int .i64 1)=some (.int .i64 ((a+1:Nat):Int)):=zBV (by omega)
 have eb:zAB .no .sub (.int .i64 (b:Nat)) (.int .i64 1)=some (.int .i64 ((b-1:Nat):Int)):=zL9 (by omega) (by omega)
 have ea1:=e1 .i64
 simp only[ea1,e2 .i64,l1,l2,w1,w2,ea,eb,zAa,zAW]
 clear e1 e2 l1 l2 w1 w2
 have hz1:(swp d a pv).size=d.size:=Sort.size_swp _ _ _
 unfold Sort.partitionEqual
 generalize hd1:swp d a pv=d1 at hz1 hrs ⊢
 refine J4_i (λu _ _ _ h=>u = .int .i64 ((Sort.partEqLoop lt a (a+1) (b-1) d1).1:Nat)/\zFT S.n F h v enc (Sort.partEqLoop lt a (a+1) (b-1) d1).2/\Keep F H h) (λk3 hk3=>?_) ?_
 rotate_left
 ·rintro _ _ _ _ h22 ⟨rfl,hr22,k22⟩
  exact⟨rfl,hr22,k22⟩
 refine zUY (λu w h=>∃ (i' j':Nat) (d':Array α),u = .int .i64 (i':Nat)/\w = .int .i64 (j':Nat)/\a<i'/\i'<=b/\j'<b/\d'.size=d.size/\Sort.partEqLoop lt a i' j' d'=Sort.partEqLoop lt a (a+1) (b-1) d1/\zFT S.n F h v enc d'/\Keep F H h) (λu w _=>match u,w with | .int _ t,.int _ s=>s.toNat+1-t.toNat|_,_=>0)
  ⟨a+1,b-1,d1,rfl,rfl,by omega,by omega,by omega,hz1,rfl,hrs,ks⟩ ?_
 rintro _ _ h24 ⟨i',j',d',rfl,rfl,hai,hib,hjb,hsz,hpl,hr,kh⟩ k23 hk23
 rw[Sort.partEqLoop_eq]at hpl
 refine zAmj C ok hr hG kh (a:=a) (j:=j') (i:=i') ea1 (by omega) (by omega) (by omega) (by omega) λy h26 hr26 k26=>?_
 have iu:=Sort.scanUp_spec (λx=>!lt d'[a]! x) d' j' _ i' rfl
 generalize hi':Sort.scanUp (λx=>!lt d'[a]! x) d' j' i'=i2 at *
 obtain⟨u1,u2,_,_⟩:=iu
 refine zAmk C ok hr26 hG k26 (a:=a) (j:=j') (i:=i2) ea1 (by omega) (by omega) (by omega) (by omega) λy' h33 hr33 k33=>?_
 have ju:=Sort.scanDown_le (λx=>lt d'[a]! x) d' i2 j'
 generalize hj':Sort.scanDown (λx=>lt d'[a]! x) d' i2 j'=j2 at *
 rw[zAbu,zAa,zAl]
 by_cases hij2:i2 > j2
 ·rw[if_pos (by simpa using hij2)]
  rw[if_pos hij2]at hpl
  refine hk3 _ _ _ _ _ ?_
  rw[<- hpl]
  exact⟨rfl,hr33,k33⟩
 rw[if_neg (by simpa using hij2)]
 rw[if_neg hij2]at hpl
 obtain⟨p1,q1,H1,H2,e1,e2,l1,l2,w1,w2,hr40,ks3⟩:=ok.swap hr33 (i:=i2) (j:=j2) (by omega) (by omega)
 have ei:zAB .no .add (.int .i64 (i2:Nat)) (.int .i64 1)=some (.int .i64 ((i2+1:Nat):Int)):=zBV (by omega)
 have ej:zAB .no .sub (.int .i64 (j2:Nat)) (.int .i64 1)=some (.int .i64 ((j2-1:Nat):Int)):=zL9 (by omega) (by omega)
 simp only[e1 .i64,e2 .i64,l1,l2,w1,w2,ei,ej,zAa,zAW]
 exact hk23 _ _ _ ⟨i2+1,j2-1,_,rfl,rfl,by omega,by omega,by omega,by rw[Sort.size_swp];exact hsz,hpl,hr40,k33.trans ks3⟩ (by show j2-1+1-(i2+1)<j'+1-i';omega)
end
open Go.Sort (swp PermIn SortedIn Below SWO)
section
variable {S:zLz} {α:Type} [Inhabited α] {lt:α->α->Bool} {enc:α->List Value} {evv:α->Value} {G:zAx->Prop} {F:zA1} {v:Value}
set_option maxHeartbeats 4000000 in
theorem zAfQ (C:zNW S)(ok:zIW S enc evv lt G F v){H:zAx}{d:Array α}(hv:zFT S.n F H v enc d)(hG:∀ h,Keep F H h->G h){a b:Nat}(hb:b<=d.size)(hs:d.size<=1000000000)(hab:a<b) :
  zAA prg S.fPartI ([v,.int .i64 (a:Nat),.int .i64 (b:Nat)]++S.ex) H λu H'=>u = .bool (Sort.partialInsertionSort lt d a b).2/\zFT S.n F H' v enc (Sort.partialInsertionSort lt d a b).1/\Keep F H H':=by
 refine C.partI ?_
 unfold zAg6
 rw[zBV (by omega),zAa]
 let R':zAm:=λu H'=>u = .bool (Sort.partialInsertionSort lt d a b).2/\zFT S.n F H' v enc (Sort.partialInsertionSort lt d a b).1/\Keep F H H'
 refine zMk (λ_ _ h=>R' (.bool false) h) (λk1 hk1=>?_) (λ_ _ _ h=>h)
 refine zUY (λu w h=>∃ (i s:Nat) (d':Array α),u = .int .i64 (i:Nat)/\w = .int .i64 ((5-s:Nat):Int)/\s<=5/\a+1<=i/\i<=b/\d'.size=d.size/\Sort.partialIns lt a b s i d'=Sort.partialInsertionSort lt d a b/\zFT S.n F h v enc d'/\Keep F H h) (λ_ w _=>match w with | .int _ t=>5-t.toNat|_=>0)
  ⟨a+1,5,d,rfl,rfl,zAh _,zAh _,by omega,rfl,rfl,hv,Keep.refl⟩ ?_
 rintro _ _ h4 ⟨i,s,d',rfl,rfl,hs5,hai,hib,hsz,hpi,hr,kh⟩ k3 hk3
 rw[show zAB .no .lss (.int .i64 ((5-s:Nat):Int)) (.int .i64 5)=some (.bool (decide (5-s<5))) from zNZ (m:=5),zAa,zAl]
 cases s with
 | zero =>
  rw[if_neg (by decide)]
  have e:(d',false)=Sort.partialInsertionSort lt d a b:=hpi
  refine hk1 _ _ _ ?_
  show _/\_
  rw[<- e];exact⟨rfl,hr,kh⟩
 | succ s =>
 rw[if_pos (by simp;omega)]
 rw[Sort.partialIns_succ]at hpi
 unfold Sort.fixUp Sort.fixDown at hpi
 refine zMk (λu _ h=>∃ (i2:Nat) (d3:Array α),u = .int .i64 (i2:Nat)/\a+1<=i2/\i2<=b/\d3.size=d.size/\Sort.partialIns lt a b s i2 d3=Sort.partialInsertionSort lt d a b/\zFT S.n F h v enc d3/\Keep F H h) (λk5 hk5=>?_) ?_
 rotate_left
 ·rintro _ _ h6 ⟨i2,d3,rfl,h1,h2,h3,h4,h5,h6⟩
  rw[zBV (by omega),zAa]
  refine hk3 _ _ _ ⟨i2,s,d3,rfl,by congr 1;omega,by omega,h1,h2,h3,h4,h5,h6⟩ (by show 5-((5-(s+1)+1:Nat):Int).toNat<5-((5-(s+1):Nat):Int).toNat;omega)
 refine zMk (λu _ h=>u = .int .i64 (Sort.scanSorted lt d' b i:Nat)/\a+1<=Sort.scanSorted lt d' b i/\Sort.scanSorted lt d' b i<=b/\zFT S.n F h v enc d'/\Keep F H h) (λk7 hk7=>?_) ?_
 ·refine zKj (λu h=>∃ m:Nat,u = .int .i64 (m:Nat)/\a+1<=m/\m<=b/\Sort.scanSorted lt d' b m=Sort.scanSorted lt d' b i/\zFT S.n F h v enc d'/\Keep F H h) (λu _=>match u with | .int _ t=>b-t.toNat|_=>0) ⟨i,rfl,hai,hib,rfl,hr,kh⟩ ?_
  rintro _ h10 ⟨m,rfl,ham,hmb,hsc,hr10,k10⟩ k9 hk9
  rw[zNZ,zAa]
  rw[Sort.scanSorted]at hsc
  by_cases hlt:m<b
  rotate_left
  ·rw[decide_eq_false hlt]
   refine zId (by decide) ?_
   refine zLY.2 ?_
   rw[zAl,if_neg (by decide)]
   rw[decide_eq_false hlt,zA2,if_neg (by decide)]at hsc
   exact hk7 _ _ _ ⟨by rw[<- hsc],by omega,by omega,hr10,k10⟩
  rw[decide_eq_true hlt]
  rw[decide_eq_true hlt,zBa]at hsc
  refine zDo rfl ?_
  obtain⟨p,hp,lp⟩:=ok.get hr10 (i:=m) (by omega)
  obtain⟨q,hq,lq⟩:=ok.get hr10 (i:=m-1) (by omega)
  have es:zAB .no .sub (.int .i64 (m:Nat)) (.int .i64 1)=some (.int .i64 ((m-1:Nat):Int)):=zL9 (by omega) (by omega)
  simp only[es,hp .i64,lp,hq .i64,lq,zAa]
  refine ok.cmp (hG _ k10) λh12 k12=>?_
  have hr12:=hr10.keep k12 λ_ _=>id
  have kh12:=k10.trans (k12.mono λ_ _ h=>h.elim)
  rw[zA7,zAa]
  refine zNV.2 ?_
  rw[zAl]
  cases hc1:lt d'[m]! d'[m-1]!
  ·rw[if_pos (by rfl)]
   rw[hc1,zAf,if_pos rfl]at hsc
   rw[zBV (by omega),zAa]
   exact hk9 _ _ ⟨m+1,rfl,by omega,by omega,hsc,hr12,kh12⟩ (by show b-(m+1)<b-m;omega)
  ·rw[if_neg (by decide)]
   rw[hc1,zAg,if_neg (by decide)]at hsc
   exact hk7 _ _ _ ⟨by rw[<- hsc],by omega,by omega,hr12,kh12⟩
 rintro _ x h8 ⟨rfl,ham,hmb,hr8,k8⟩
 generalize Sort.scanSorted lt d' b i=m at *
 rw[zAjz,zAa,zAl]
 by_cases hme:m=b
 ·rw[if_pos (by simpa using hme)]
  rw[if_pos hme]at hpi
  rw[<- hpi];exact⟨rfl,hr8,k8⟩
 rw[if_neg (by simpa using hme)]
 rw[if_neg hme]at hpi
 rw[zSW (by omega) (by omega),zAa,show zAB .no .lss (.int .i64 ((b-a:Nat):Int)) (.int .i64 50)=some (.bool (decide (b-a<50))) from zNZ (m:=50),zAa,zAl]
 by_cases h50:b-a<50
 ·rw[if_pos (by simpa using h50)]
  rw[if_pos h50]at hpi
  rw[<- hpi];exact⟨rfl,hr8,k8⟩
 rw[if_neg (by simpa using h50)]
 rw[if_neg h50]at hpi
 have es:zAB .no .sub (.int .i64 (m:Nat)) (.int .i64 1)=some (.int .i64 ((m-1:Nat):Int)):=zL9 (by omega) (by omega)
 obtain⟨p1,q1,H1,H2,e1,e2,l1,l2,w1,w2,hr15,ks⟩:=ok.swap hr8 (i:=m) (j:=m-1) (by omega) (by omega)
 rw[es,zAa,zAa,e2 .i64,zAa,l2,zAa,e1 .i64,zAa,l1,zAa,zAa,w1,zAW,zAa,w2,zAW]
 clear e1 e2 l1 l2 w1 w2 p1 q1
 have k15:=k8.trans ks
 have hz1:(swp d' m (m-1)).size=d.size:=by rw[Sort.size_swp];exact hsz
 generalize swp d' m (m-1)=d1 at *
 refine zAjv (λh=>∃ d2,d2=(if m-a>=2 then Sort.shiftDown lt (m-1) d1 else d1)/\d2.size=d.size/\zFT S.n F h v enc d2/\Keep F H h) (λk16 hk16=>?_) ?_
 ·rw[zSW (by omega) (by omega),zAa,show zAB .no .geq (.int .i64 ((m-a:Nat):Int)) (.int .i64 2)=some (.bool (decide (m-a>=2))) from zU5 (m:=2),zAa,zAl]
  by_cases h2:m-a>=2
  rotate_left
  ·rw[if_neg (by simpa using h2)]
   exact hk16 _ ⟨d1,by rw[if_neg h2],hz1,hr15,k15⟩
  rw[if_pos (by simpa using h2),zAa]
  refine zKj (λu h=>∃ (j:Nat) (d2:Array α),u = .int .i64 (j:Nat)/\j<=m-1/\d2.size=d.size/\Sort.shiftDown lt j d2=Sort.shiftDown lt (m-1) d1/\zFT S.n F h v enc d2/\Keep F H h) (λu _=>match u with | .int _ t=>t.toNat|_=>0) ⟨m-1,d1,rfl,zAh _,hz1,rfl,hr15,k15⟩ ?_
  rintro _ h19 ⟨j,d2,rfl,hjm,hz2,hsd,hr19,k19⟩ k18 hk18
  rw[show zAB .no .geq (.int .i64 (j:Nat)) (.int .i64 1)=some (.bool (decide (j>=1))) from zU5 (m:=1),zAa,zAl]
  cases j with
  | zero =>
   rw[if_neg (by decide)]
   have e:d2=Sort.shiftDown lt (m-1) d1:=hsd
   exact hk16 _ ⟨d2,by rw[if_pos h2,e],hz2,hr19,k19⟩
  | succ j =>
  rw[if_pos (by simp)]
  obtain⟨p,hp,lp⟩:=ok.get hr19 (i:=j+1) (by omega)
  obtain⟨q,hq,lq⟩:=ok.get hr19 (i:=j) (by omega)
  have ej:zAB .no .sub (.int .i64 ((j+1:Nat):Int)) (.int .i64 1)=some (.int .i64 (j:Nat)):=zX0 (by omega)
  simp only[ej,hp .i64,lp,hq .i64,lq,zAa]
  refine ok.cmp (hG _ k19) λh20 k20=>?_
  have hr20:=hr19.keep k20 λ_ _=>id
  have kh20:=k19.trans (k20.mono λ_ _ h=>h.elim)
  rw[zA7,zAa,zAl]
  rw[Sort.shiftDown]at hsd
  cases hc1:lt d2[j+1]! d2[j]!
  ·rw[if_pos (by rfl)]
   rw[hc1,zAf,if_pos rfl]at hsd
   exact hk16 _ ⟨d2,by rw[if_pos h2,hsd],hz2,hr20,kh20⟩
  rw[if_neg (by decide)]
  rw[hc1,zAg,if_neg (by decide)]at hsd
  obtain⟨p1,q1,H1,H2,e1,e2,l1,l2,w1,w2,hr22,ks⟩:=ok.swap hr20 (i:=j+1) (j:=j) (by omega) (by omega)
  obtain rfl:=zAN ((hp .i64).symm.trans (e1 .i64))
  obtain rfl:=zAN ((hq .i64).symm.trans (e2 .i64))
  simp only[ej,hp .i64,hq .i64,l1,l2,w1,w2,zAa,zAW]
  exact hk18 _ _ ⟨j,_,rfl,by omega,by rw[Sort.size_swp];exact hz2,hsd,hr22,kh20.trans ks⟩ (by show j<j+1;omega)
 rintro h17 ⟨d2,hd2,hz2,hr17,k17⟩
 have hpi':Sort.partialIns lt a b s m (if b-m>=2 then Sort.shiftUp lt b (m+1) d2 else d2)=Sort.partialInsertionSort lt d a b:=by rw[hd2];exact hpi
 rw[zSW (by omega) (by omega),zAa,show zAB .no .geq (.int .i64 ((b-m:Nat):Int)) (.int .i64 2)=some (.bool (decide (b-m>=2))) from zU5 (m:=2),zAa,zAl]
 by_cases h2:b-m>=2
 rotate_left
 ·rw[if_neg (by simpa using h2)]
  rw[if_neg h2]at hpi'
  exact hk5 _ _ _ ⟨m,d2,rfl,ham,hmb,hz2,hpi',hr17,k17⟩
 rw[if_pos (by simpa using h2),zBV (by omega),zAa]
 rw[if_pos h2]at hpi'
 refine zKj (λu h=>∃ (j:Nat) (d3:Array α),u = .int .i64 (j:Nat)/\m+1<=j/\j<=b/\d3.size=d.size/\Sort.shiftUp lt b j d3=Sort.shiftUp lt b (m+1) d2/\zFT S.n F h v enc d3/\Keep F H h) (λu _=>match u with | .int _ t=>b-t.toNat|_=>0) ⟨m+1,d2,rfl,zAh _,by omega,hz2,rfl,hr17,k17⟩ ?_
 rintro _ h24 ⟨j,d3,rfl,hmj,hjb,hz3,hsu,hr24,k24⟩ k23 hk23
 rw[zNZ,zAa,zAl]
 rw[Sort.shiftUp]at hsu
 by_cases hlt:j<b
 rotate_left
 ·rw[if_neg (by simpa using hlt)]
  rw[if_neg hlt]at hsu
  exact hk5 _ _ _ ⟨m,d3,rfl,ham,hmb,hz3,by rw[hsu];exact hpi',hr24,k24⟩
 rw[if_pos (by simpa using hlt)]
 rw[if_pos hlt]at hsu
 obtain⟨p,hp,lp⟩:=ok.get hr24 (i:=j) (by omega)
 obtain⟨q,hq,lq⟩:=ok.get hr24 (i:=j-1) (by omega)
 have ej:zAB .no .sub (.int .i64 (j:Nat)) (.int .i64 1)=some (.int .i64 ((j-1:Nat):Int)):=zL9 (by omega) (by omega)
 have ej1:zAB .no .add (.int .i64 (j:Nat)) (.int .i64 1)=some (.int .i64 ((j+1:Nat):Int)):=zBV (by omega)
 simp only[ej,ej1,hp .i64,lp,hq .i64,lq,zAa]
 refine ok.cmp (hG _ k24) λh25 k25=>?_
 have hr25:=hr24.keep k25 λ_ _=>id
 have kh25:=k24.trans (k25.mono λ_ _ h=>h.elim)
 rw[zA7,zAa,zAl]
 cases hc1:lt d3[j]! d3[j-1]!
 ·rw[if_pos (by rfl)]
  rw[hc1,zAf,if_pos rfl]at hsu
  exact hk5 _ _ _ ⟨m,d3,rfl,ham,hmb,hz3,by rw[hsu];exact hpi',hr25,kh25⟩
 rw[if_neg (by decide)]
 rw[hc1,zAg,if_neg (by decide)]at hsu
 obtain⟨p1,q1,H1,H2,e1,e2,l1,l2,w1,w2,hr27,ks'⟩:=ok.swap hr25 (i:=j) (j:=j-1) (by omega) (by omega)
 obtain rfl:=zAN ((hp .i64).symm.trans (e1 .i64))
 obtain rfl:=zAN ((hq .i64).symm.trans (e2 .i64))
 simp only[ej,ej1,hp .i64,hq .i64,l1,l2,w1,w2,zAa,zAW]
 exact hk23 _ _ ⟨j+1,_,rfl,by omega,by omega,by rw[Sort.size_swp];exact hz3,hsu,hr27,kh25.trans ks'⟩ (by show b-(j+1)<b-j;omega)
end
end Go.Proofs.YticdfkoncnnmmaaGreatDoor
