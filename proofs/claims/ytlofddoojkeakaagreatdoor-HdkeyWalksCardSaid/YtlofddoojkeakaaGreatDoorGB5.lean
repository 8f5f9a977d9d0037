/- The curve's sum is associative; the formulas of a triple are the sum. -/
import Derived.Test.YtlofddoojkeakaaGreatDoorGB4
import Derived.Test.YtlofddoojkeakaaGreatDoorGB1
import Derived.Test.YtlofddoojkeakaaGreatDoorGB3
set_option linter.unusedVariables false
set_option linter.unusedSimpArgs false
set_option linter.unusedSectionVars false
namespace Go.Proofs.YtlofddoojkeakaaGreatDoor.Cv
section
variable {n:Nat} [NeZero n]
theorem LU{x1 y1 x2 y2 x3 y3 l m p q a b c d:Fin n}(g:Good n)(h1:y1^2=x1^3+7)(h2:y2^2=x2^3+7)(h3:y3^2=x3^3+7)
 (hl:l*(x2-x1)=y2-y1) (hl':l*(y1+y2)=x1^2+x1*x2+x2^2) (hm:m*(x3-x2)=y3-y2) (hm':m*(y2+y3)=x2^2+x2*x3+x3^2)
 (ha:a=l^2-x1-x2) (hb:b=l*(x1-a)-y1) (hc:c=m^2-x2-x3) (hd:d=m*(x2-c)-y2)
 (hp:p*(x3 -a)=y3 -b) (hp':p*(b+y3)=a^2+a*x3+x3^2) (hq:q*(c -x1)=d -y1) (hq':q*(d+y1)=c^2+c*x1+x1^2) (nl:x2 -x1≠0) (nm:x3 -x2≠0) (np:x3 -a≠0) (nq:c -x1≠0):
 p^2 -a -x3=q^2 -x1 -c∧p*(a -(p^2 -a -x3)) -b=q*(x1 -(p^2 -a -x3)) -y1:=by
 have i1:=g.inv _ nl
 have i2:=g.inv _ nm
 have i3:=g.inv _ np
 have i4:=g.inv _ nq
 clear nl nm np nq
 subst ha hb hc hd
 refine⟨eq_of g fun w hw=> ?_,eq_of g fun w hw=> ?_⟩
 · grobner
 · grobner
theorem LV{x1 y1 x2 y2 x3 y3 l m p q a b c d:Fin n}(g:Good n)(h1:y1^2=x1^3+7)(h2:y2^2=x2^3+7)(h3:y3^2=x3^3+7)
 (hl:l*(x2-x1)=y2-y1) (hl':l*(y1+y2)=x1^2+x1*x2+x2^2) (hm:m*(x3-x2)=y3-y2) (hm':m*(y2+y3)=x2^2+x2*x3+x3^2)
 (ha:a=l^2-x1-x2) (hb:b=l*(x1-a)-y1) (hc:c=m^2-x2-x3) (hd:d=m*(x2-c)-y2)
 (hp:p*(x3 -a)=y3 -b) (hp':p*(b+y3)=a^2+a*x3+x3^2) (hq:q*(c -x1)=d -y1) (hq':q*(d+y1)=c^2+c*x1+x1^2) (nl:x2 -x1≠0) (nm:x3 -x2≠0) (np:x3 -a≠0) (nq:d+y1≠0):
 p^2 -a -x3=q^2 -x1 -c∧p*(a -(p^2 -a -x3)) -b=q*(x1 -(p^2 -a -x3)) -y1:=by
 have i1:=g.inv _ nl
 have i2:=g.inv _ nm
 have i3:=g.inv _ np
 have i4:=g.inv _ nq
 clear nl nm np nq
 subst ha hb hc hd
 refine⟨eq_of g fun w hw=> ?_,eq_of g fun w hw=> ?_⟩
 · grobner
 · grobner
theorem LW{x1 y1 x2 y2 x3 y3 l m p q a b c d:Fin n}(g:Good n)(h1:y1^2=x1^3+7)(h2:y2^2=x2^3+7)(h3:y3^2=x3^3+7)
 (hl:l*(x2-x1)=y2-y1) (hl':l*(y1+y2)=x1^2+x1*x2+x2^2) (hm:m*(x3-x2)=y3-y2) (hm':m*(y2+y3)=x2^2+x2*x3+x3^2)
 (ha:a=l^2-x1-x2) (hb:b=l*(x1-a)-y1) (hc:c=m^2-x2-x3) (hd:d=m*(x2-c)-y2)
 (hp:p*(x3 -a)=y3 -b) (hp':p*(b+y3)=a^2+a*x3+x3^2) (hq:q*(c -x1)=d -y1) (hq':q*(d+y1)=c^2+c*x1+x1^2) (nl:x2 -x1≠0) (nm:x3 -x2≠0) (np:b+y3≠0) (nq:c -x1≠0):
 p^2 -a -x3=q^2 -x1 -c∧p*(a -(p^2 -a -x3)) -b=q*(x1 -(p^2 -a -x3)) -y1:=by
 have i1:=g.inv _ nl
 have i2:=g.inv _ nm
 have i3:=g.inv _ np
 have i4:=g.inv _ nq
 clear nl nm np nq
 subst ha hb hc hd
 refine⟨eq_of g fun w hw=> ?_,eq_of g fun w hw=> ?_⟩
 · grobner
 · grobner
theorem LX{x1 y1 x2 y2 x3 y3 l m p q a b c d:Fin n}(g:Good n)(h1:y1^2=x1^3+7)(h2:y2^2=x2^3+7)(h3:y3^2=x3^3+7)
 (hl:l*(x2-x1)=y2-y1) (hl':l*(y1+y2)=x1^2+x1*x2+x2^2) (hm:m*(x3-x2)=y3-y2) (hm':m*(y2+y3)=x2^2+x2*x3+x3^2)
 (ha:a=l^2-x1-x2) (hb:b=l*(x1-a)-y1) (hc:c=m^2-x2-x3) (hd:d=m*(x2-c)-y2)
 (hp:p*(x3 -a)=y3 -b) (hp':p*(b+y3)=a^2+a*x3+x3^2) (hq:q*(c -x1)=d -y1) (hq':q*(d+y1)=c^2+c*x1+x1^2) (nl:x2 -x1≠0) (nm:y2+y3≠0) (np:x3 -a≠0) (nq:c -x1≠0):
 p^2 -a -x3=q^2 -x1 -c∧p*(a -(p^2 -a -x3)) -b=q*(x1 -(p^2 -a -x3)) -y1:=by
 have i1:=g.inv _ nl
 have i2:=g.inv _ nm
 have i3:=g.inv _ np
 have i4:=g.inv _ nq
 clear nl nm np nq
 subst ha hb hc hd
 refine⟨eq_of g fun w hw=> ?_,eq_of g fun w hw=> ?_⟩
 · grobner
 · grobner
theorem LY{x1 y1 x2 y2 x3 y3 l m p q a b c d:Fin n}(g:Good n)(h1:y1^2=x1^3+7)(h2:y2^2=x2^3+7)(h3:y3^2=x3^3+7)
 (hl:l*(x2-x1)=y2-y1) (hl':l*(y1+y2)=x1^2+x1*x2+x2^2) (hm:m*(x3-x2)=y3-y2) (hm':m*(y2+y3)=x2^2+x2*x3+x3^2)
 (ha:a=l^2-x1-x2) (hb:b=l*(x1-a)-y1) (hc:c=m^2-x2-x3) (hd:d=m*(x2-c)-y2)
 (hp:p*(x3 -a)=y3 -b) (hp':p*(b+y3)=a^2+a*x3+x3^2) (hq:q*(c -x1)=d -y1) (hq':q*(d+y1)=c^2+c*x1+x1^2) (nl:x2 -x1≠0) (nm:y2+y3≠0) (np:x3 -a≠0) (nq:d+y1≠0):
 p^2 -a -x3=q^2 -x1 -c∧p*(a -(p^2 -a -x3)) -b=q*(x1 -(p^2 -a -x3)) -y1:=by
 have i1:=g.inv _ nl
 have i2:=g.inv _ nm
 have i3:=g.inv _ np
 have i4:=g.inv _ nq
 clear nl nm np nq
 subst ha hb hc hd
 refine⟨eq_of g fun w hw=> ?_,eq_of g fun w hw=> ?_⟩
 · grobner
 · grobner
theorem LZ{x1 y1 x2 y2 x3 y3 l m p q a b c d:Fin n}(g:Good n)(h1:y1^2=x1^3+7)(h2:y2^2=x2^3+7)(h3:y3^2=x3^3+7)
 (hl:l*(x2-x1)=y2-y1) (hl':l*(y1+y2)=x1^2+x1*x2+x2^2) (hm:m*(x3-x2)=y3-y2) (hm':m*(y2+y3)=x2^2+x2*x3+x3^2)
 (ha:a=l^2-x1-x2) (hb:b=l*(x1-a)-y1) (hc:c=m^2-x2-x3) (hd:d=m*(x2-c)-y2)
 (hp:p*(x3 -a)=y3 -b) (hp':p*(b+y3)=a^2+a*x3+x3^2) (hq:q*(c -x1)=d -y1) (hq':q*(d+y1)=c^2+c*x1+x1^2) (nl:x2 -x1≠0) (nm:y2+y3≠0) (np:b+y3≠0) (nq:c -x1≠0):
 p^2 -a -x3=q^2 -x1 -c∧p*(a -(p^2 -a -x3)) -b=q*(x1 -(p^2 -a -x3)) -y1:=by
 have i1:=g.inv _ nl
 have i2:=g.inv _ nm
 have i3:=g.inv _ np
 have i4:=g.inv _ nq
 clear nl nm np nq
 subst ha hb hc hd
 refine⟨eq_of g fun w hw=> ?_,eq_of g fun w hw=> ?_⟩
 · grobner
 · grobner
theorem L8{x1 y1 x2 y2 x3 y3 l m p q a b c d:Fin n}(g:Good n)(h1:y1^2=x1^3+7)(h2:y2^2=x2^3+7)(h3:y3^2=x3^3+7)
 (hl:l*(x2-x1)=y2-y1) (hl':l*(y1+y2)=x1^2+x1*x2+x2^2) (hm:m*(x3-x2)=y3-y2) (hm':m*(y2+y3)=x2^2+x2*x3+x3^2)
 (ha:a=l^2-x1-x2) (hb:b=l*(x1-a)-y1) (hc:c=m^2-x2-x3) (hd:d=m*(x2-c)-y2)
 (hp:p*(x3 -a)=y3 -b) (hp':p*(b+y3)=a^2+a*x3+x3^2) (hq:q*(c -x1)=d -y1) (hq':q*(d+y1)=c^2+c*x1+x1^2) (nl:y1+y2≠0) (nm:x3 -x2≠0) (np:x3 -a≠0) (nq:c -x1≠0):
 p^2 -a -x3=q^2 -x1 -c∧p*(a -(p^2 -a -x3)) -b=q*(x1 -(p^2 -a -x3)) -y1:=by
 have i1:=g.inv _ nl
 have i2:=g.inv _ nm
 have i3:=g.inv _ np
 have i4:=g.inv _ nq
 clear nl nm np nq
 subst ha hb hc hd
 refine⟨eq_of g fun w hw=> ?_,eq_of g fun w hw=> ?_⟩
 · grobner
 · grobner
theorem Ma{x1 y1 x2 y2 x3 y3 l m p q a b c d:Fin n}(g:Good n)(h1:y1^2=x1^3+7)(h2:y2^2=x2^3+7)(h3:y3^2=x3^3+7)
 (hl:l*(x2-x1)=y2-y1) (hl':l*(y1+y2)=x1^2+x1*x2+x2^2) (hm:m*(x3-x2)=y3-y2) (hm':m*(y2+y3)=x2^2+x2*x3+x3^2)
 (ha:a=l^2-x1-x2) (hb:b=l*(x1-a)-y1) (hc:c=m^2-x2-x3) (hd:d=m*(x2-c)-y2)
 (hp:p*(x3 -a)=y3 -b) (hp':p*(b+y3)=a^2+a*x3+x3^2) (hq:q*(c -x1)=d -y1) (hq':q*(d+y1)=c^2+c*x1+x1^2) (nl:y1+y2≠0) (nm:x3 -x2≠0) (np:x3 -a≠0) (nq:d+y1≠0):
 p^2 -a -x3=q^2 -x1 -c∧p*(a -(p^2 -a -x3)) -b=q*(x1 -(p^2 -a -x3)) -y1:=by
 have i1:=g.inv _ nl
 have i2:=g.inv _ nm
 have i3:=g.inv _ np
 have i4:=g.inv _ nq
 clear nl nm np nq
 subst ha hb hc hd
 refine⟨eq_of g fun w hw=> ?_,eq_of g fun w hw=> ?_⟩
 · grobner
 · grobner
theorem Mb{x1 y1 x2 y2 x3 y3 l m p q a b c d:Fin n}(g:Good n)(h1:y1^2=x1^3+7)(h2:y2^2=x2^3+7)(h3:y3^2=x3^3+7)
 (hl:l*(x2-x1)=y2-y1) (hl':l*(y1+y2)=x1^2+x1*x2+x2^2) (hm:m*(x3-x2)=y3-y2) (hm':m*(y2+y3)=x2^2+x2*x3+x3^2)
 (ha:a=l^2-x1-x2) (hb:b=l*(x1-a)-y1) (hc:c=m^2-x2-x3) (hd:d=m*(x2-c)-y2)
 (hp:p*(x3 -a)=y3 -b) (hp':p*(b+y3)=a^2+a*x3+x3^2) (hq:q*(c -x1)=d -y1) (hq':q*(d+y1)=c^2+c*x1+x1^2) (nl:y1+y2≠0) (nm:x3 -x2≠0) (np:b+y3≠0) (nq:c -x1≠0):
 p^2 -a -x3=q^2 -x1 -c∧p*(a -(p^2 -a -x3)) -b=q*(x1 -(p^2 -a -x3)) -y1:=by
 have i1:=g.inv _ nl
 have i2:=g.inv _ nm
 have i3:=g.inv _ np
 have i4:=g.inv _ nq
 clear nl nm np nq
 subst ha hb hc hd
 refine⟨eq_of g fun w hw=> ?_,eq_of g fun w hw=> ?_⟩
 · grobner
 · grobner
theorem Mc{x1 y1 x2 y2 x3 y3 l m p q a b c d:Fin n}(g:Good n)(h1:y1^2=x1^3+7)(h2:y2^2=x2^3+7)(h3:y3^2=x3^3+7)
 (hl:l*(x2-x1)=y2-y1) (hl':l*(y1+y2)=x1^2+x1*x2+x2^2) (hm:m*(x3-x2)=y3-y2) (hm':m*(y2+y3)=x2^2+x2*x3+x3^2)
 (ha:a=l^2-x1-x2) (hb:b=l*(x1-a)-y1) (hc:c=m^2-x2-x3) (hd:d=m*(x2-c)-y2)
 (hp:p*(x3 -a)=y3 -b) (hp':p*(b+y3)=a^2+a*x3+x3^2) (hq:q*(c -x1)=d -y1) (hq':q*(d+y1)=c^2+c*x1+x1^2) (nl:y1+y2≠0) (nm:y2+y3≠0) (np:x3 -a≠0) (nq:c -x1≠0):
 p^2 -a -x3=q^2 -x1 -c∧p*(a -(p^2 -a -x3)) -b=q*(x1 -(p^2 -a -x3)) -y1:=by
 have i1:=g.inv _ nl
 have i2:=g.inv _ nm
 have i3:=g.inv _ np
 have i4:=g.inv _ nq
 clear nl nm np nq
 subst ha hb hc hd
 refine⟨eq_of g fun w hw=> ?_,eq_of g fun w hw=> ?_⟩
 · grobner
 · grobner
theorem Md{x1 y1 x2 y2 x3 y3 l m p q a b c d:Fin n}(g:Good n)(h1:y1^2=x1^3+7)(h2:y2^2=x2^3+7)(h3:y3^2=x3^3+7)
 (hl:l*(x2-x1)=y2-y1) (hl':l*(y1+y2)=x1^2+x1*x2+x2^2) (hm:m*(x3-x2)=y3-y2) (hm':m*(y2+y3)=x2^2+x2*x3+x3^2)
 (ha:a=l^2-x1-x2) (hb:b=l*(x1-a)-y1) (hc:c=m^2-x2-x3) (hd:d=m*(x2-c)-y2)
 (hp:p*(x3 -a)=y3 -b) (hp':p*(b+y3)=a^2+a*x3+x3^2) (hq:q*(c -x1)=d -y1) (hq':q*(d+y1)=c^2+c*x1+x1^2) (nl:y1+y2≠0) (nm:y2+y3≠0) (np:x3 -a≠0) (nq:d+y1≠0):
 p^2 -a -x3=q^2 -x1 -c∧p*(a -(p^2 -a -x3)) -b=q*(x1 -(p^2 -a -x3)) -y1:=by
 have i1:=g.inv _ nl
 have i2:=g.inv _ nm
 have i3:=g.inv _ np
 have i4:=g.inv _ nq
 clear nl nm np nq
 subst ha hb hc hd
 refine⟨eq_of g fun w hw=> ?_,eq_of g fun w hw=> ?_⟩
 · grobner
 · grobner
theorem Me{x1 y1 x2 y2 x3 y3 l m p q a b c d:Fin n}(g:Good n)(h1:y1^2=x1^3+7)(h2:y2^2=x2^3+7)(h3:y3^2=x3^3+7)
 (hl:l*(x2-x1)=y2-y1) (hl':l*(y1+y2)=x1^2+x1*x2+x2^2) (hm:m*(x3-x2)=y3-y2) (hm':m*(y2+y3)=x2^2+x2*x3+x3^2)
 (ha:a=l^2-x1-x2) (hb:b=l*(x1-a)-y1) (hc:c=m^2-x2-x3) (hd:d=m*(x2-c)-y2)
 (hp:p*(x3 -a)=y3 -b) (hp':p*(b+y3)=a^2+a*x3+x3^2) (hq:q*(c -x1)=d -y1) (hq':q*(d+y1)=c^2+c*x1+x1^2) (nl:y1+y2≠0) (nm:y2+y3≠0) (np:b+y3≠0) (nq:c -x1≠0):
 p^2 -a -x3=q^2 -x1 -c∧p*(a -(p^2 -a -x3)) -b=q*(x1 -(p^2 -a -x3)) -y1:=by
 have i1:=g.inv _ nl
 have i2:=g.inv _ nm
 have i3:=g.inv _ np
 have i4:=g.inv _ nq
 clear nl nm np nq
 subst ha hb hc hd
 refine⟨eq_of g fun w hw=> ?_,eq_of g fun w hw=> ?_⟩
 · grobner
 · grobner
end
section
variable {n:Nat} [NeZero n]
theorem yK{u v:Fin n}(h:u -v=0):v=u:=by grobner
theorem Rt{u v:Fin n}(h:u+v=0):v+u=0:=by grobner
theorem Wp{q d y c x:Fin n}(h:q*(y+d)=x^2+x*c+c^2):q*(d+y)=c^2+c*x+x^2:=by grobner
theorem neg_add{P Q:Pt (Fin n)}(g:Good n)(hP:P.on)(hQ:Q.on):jn (eB P Q)=eB (jn P) (jn Q):=by
 cases P with
 |inf=>rw[fh];exact(fh _).symm
 |fq x1 y1=>cases Q with
  |inf=>rw[gu];exact(gu _).symm
  |fq x2 y2=>
   have hP':On x1 (-y1):=iR hP
   have hQ':On x2 (-y2):=iR hQ
   by_cases hn:x1=x2∧y1= -y2
   ·rw[eV g hP hn]
    exact(eV g hP' ⟨hn.1,by rw[hn.2]⟩).symm
   ·obtain⟨l,s⟩:=jq g hP hQ hn
    have hs1:=s.dif
    have hs2:=s.sum
    rw[ek g hP hQ hn s]
    simp only[jn]
    rw[ek g hP' hQ' (fun h=>hn ⟨h.1,by have :=h.2;grobner⟩) (l:= -l) ⟨by grobner,by grobner⟩]
    have e1:(-l)^2 -x1 -x2=l^2-x1-x2:=by grobner
    rw[e1]
    congr 1
    grobner
theorem add_assoc{P Q R:Pt (Fin n)}(g:Good n)(hP:P.on)(hQ:Q.on)(hR:R.on):eB (eB P Q) R=eB P (eB Q R):=by
 cases P with
 |inf=>rw[fh,fh]
 |fq x1 y1=>cases Q with
  |inf=>rw[gu,fh]
  |fq x2 y2=>cases R with
   |inf=>rw[gu,gu]
   |fq x3 y3=>
    by_cases n12:x1=x2∧y1= -y2
    · have e:(Pt.fq x1 y1:Pt (Fin n))=jn (.fq x2 y2):=by simp only[jn];rw[n12.1,n12.2]
      rw[eV g hP n12,fh,add_comm g hP (jm g hQ hR),add_comm g hQ hR,e]
      exact(k9 g hR hQ).symm
    by_cases n23:x2=x3∧y2= -y3
    · have e:(Pt.fq x3 y3:Pt (Fin n))=jn (.fq x2 y2):=by simp only[jn];rw[n23.1,n23.2,nn]
      rw[eV g hQ n23,gu,e]
      exact k9 g hP hQ
    have hPQ:=jm g hP hQ
    have hQR:=jm g hQ hR
    have hna:=neg_add g hP hQ
    have hnb:=neg_add g hQ hR
    have hcA:=k9 g (iR hP) (iR hQ)
    have hcB:=k9 g (iR hR) (iR hQ)
    rw[neg_neg]at hcA hcB
    have hcm:=add_comm g hQ (jm g (iR hP) (iR hQ))
    have hcm2:=add_comm g (iR hQ) (iR hR)
    obtain⟨l,sl⟩:=jq g hP hQ n12
    obtain⟨m,sm⟩:=jq g hQ hR n23
    rw[ek g hP hQ n12 sl]at hPQ hna⊢
    rw[ek g hQ hR n23 sm]at hQR hnb⊢
    obtain⟨l1,l2⟩:=sl
    obtain⟨m1,m2⟩:=sm
    generalize ha:l^2-x1-x2=a at *
    generalize hb:l*(x1-a)-y1=b at *
    generalize hc:m^2-x2-x3=c at *
    generalize hd:m*(x2-c)-y2=d at *
    by_cases nS:a=x3∧b= -y3
    ·rw[eV g hPQ nS]
     have e:(Pt.fq x3 y3:Pt (Fin n))=jn (.fq a b):=by simp only[jn];rw[nS.1,nS.2,nn]
     have hT:(Pt.fq c d:Pt (Fin n))=jn (.fq x1 y1):=by
      have h0:eB (.fq x2 y2) (.fq x3 y3)=(Pt.fq c d:Pt (Fin n)):=by rw[ek g hQ hR n23 ⟨m1,m2⟩,hc,hd]
      rw[←h0,e,hna,hcm]
      exact hcA
     rw[hT]
     exact(i7 _ g hP).symm
    by_cases nT:x1=c∧y1= -d
    ·rw[eV g hP nT]
     have e:(Pt.fq x1 y1:Pt (Fin n))=jn (.fq c d):=by simp only[jn];rw[nT.1,nT.2]
     have hS:(Pt.fq a b:Pt (Fin n))=jn (.fq x3 y3):=by
      have h0:eB (.fq x1 y1) (.fq x2 y2)=(Pt.fq a b:Pt (Fin n)):=by rw[ek g hP hQ n12 ⟨l1,l2⟩,ha,hb]
      rw[←h0,e,hnb,hcm2]
      exact hcB
     rw[hS,add_comm g (iR hR) hR]
     exact i7 _ g hR
    obtain⟨p,sp⟩:=jq g hPQ hR nS
    obtain⟨q,sq⟩:=jq g hP hQR nT
    rw[ek g hPQ hR nS sp,ek g hP hQR nT sq]
    obtain⟨p1,p2⟩:=sp
    obtain⟨q1,q2⟩:=sq
    have o1:y1^2=x1^3+7:=hP
    have o2:y2^2=x2^3+7:=hQ
    have o3:y3^2=x3^3+7:=hR
    have oS:b^2=a^3+7:=hPQ
    have oT:d^2=c^3+7:=hQR
    have q2':q*(d+y1)=c^2+c*x1+x1^2:=Wp q2
    have hy1:=ph g hP
    have hy2:=ph g hQ
    have key:p^2 -a -x3=q^2 -x1 -c∧p*(a -(p^2 -a -x3)) -b=q*(x1 -(p^2 -a -x3)) -y1:=by
     rcases js n12 with d1|d1<;>rcases js n23 with d2|d2<;>by_cases d3:x3 -a=0<;>by_cases d4:c -x1=0
     · exfalso
       have e1:a=x3:=yK d3
       have e2:c=x1:=(yK d4).symm
       subst e1 e2
       have e3:b=y3:=by
        rcases jo g (show On a b from oS) (show On a y3 from o3)with h|h
        ·exact h
        ·exact absurd ⟨rfl,h⟩ nS
       have e4:y1=d:=by
        rcases jo g (show On c y1 from o1) (show On c d from oT)with h|h
        ·exact h
        ·exact absurd ⟨rfl,h⟩ nT
       subst e3 e4
       exact bs g l1 m1 ha.symm hb.symm hc.symm hd.symm hy1 hy2
     ·exact LW g o1 o2 o3 l1 l2 m1 m2 ha.symm hb.symm hc.symm hd.symm p1 p2 q1 q2' d1 d2 ((js nS).resolve_left (fun h=>h d3)) d4
     ·exact LV g o1 o2 o3 l1 l2 m1 m2 ha.symm hb.symm hc.symm hd.symm p1 p2 q1 q2' d1 d2 d3 (fun e=>(js nT).resolve_left (fun h=>h d4) (Rt e))
     ·exact LU g o1 o2 o3 l1 l2 m1 m2 ha.symm hb.symm hc.symm hd.symm p1 p2 q1 q2' d1 d2 d3 d4
     · exfalso
       have e1:a=x3:=yK d3
       have e2:c=x1:=(yK d4).symm
       subst e1 e2
       have e3:b=y3:=by
        rcases jo g (show On a b from oS) (show On a y3 from o3)with h|h
        ·exact h
        ·exact absurd ⟨rfl,h⟩ nS
       have e4:y1=d:=by
        rcases jo g (show On c y1 from o1) (show On c d from oT)with h|h
        ·exact h
        ·exact absurd ⟨rfl,h⟩ nT
       subst e3 e4
       exact bs g l1 m1 ha.symm hb.symm hc.symm hd.symm hy1 hy2
     ·exact LZ g o1 o2 o3 l1 l2 m1 m2 ha.symm hb.symm hc.symm hd.symm p1 p2 q1 q2' d1 d2 ((js nS).resolve_left (fun h=>h d3)) d4
     ·exact LY g o1 o2 o3 l1 l2 m1 m2 ha.symm hb.symm hc.symm hd.symm p1 p2 q1 q2' d1 d2 d3 (fun e=>(js nT).resolve_left (fun h=>h d4) (Rt e))
     ·exact LX g o1 o2 o3 l1 l2 m1 m2 ha.symm hb.symm hc.symm hd.symm p1 p2 q1 q2' d1 d2 d3 d4
     · exfalso
       have e1:a=x3:=yK d3
       have e2:c=x1:=(yK d4).symm
       subst e1 e2
       have e3:b=y3:=by
        rcases jo g (show On a b from oS) (show On a y3 from o3)with h|h
        ·exact h
        ·exact absurd ⟨rfl,h⟩ nS
       have e4:y1=d:=by
        rcases jo g (show On c y1 from o1) (show On c d from oT)with h|h
        ·exact h
        ·exact absurd ⟨rfl,h⟩ nT
       subst e3 e4
       exact bs g l1 m1 ha.symm hb.symm hc.symm hd.symm hy1 hy2
     ·exact Mb g o1 o2 o3 l1 l2 m1 m2 ha.symm hb.symm hc.symm hd.symm p1 p2 q1 q2' d1 d2 ((js nS).resolve_left (fun h=>h d3)) d4
     ·exact Ma g o1 o2 o3 l1 l2 m1 m2 ha.symm hb.symm hc.symm hd.symm p1 p2 q1 q2' d1 d2 d3 (fun e=>(js nT).resolve_left (fun h=>h d4) (Rt e))
     ·exact L8 g o1 o2 o3 l1 l2 m1 m2 ha.symm hb.symm hc.symm hd.symm p1 p2 q1 q2' d1 d2 d3 d4
     · exfalso
       have e1:a=x3:=yK d3
       have e2:c=x1:=(yK d4).symm
       subst e1 e2
       have e3:b=y3:=by
        rcases jo g (show On a b from oS) (show On a y3 from o3)with h|h
        ·exact h
        ·exact absurd ⟨rfl,h⟩ nS
       have e4:y1=d:=by
        rcases jo g (show On c y1 from o1) (show On c d from oT)with h|h
        ·exact h
        ·exact absurd ⟨rfl,h⟩ nT
       subst e3 e4
       exact bs g l1 m1 ha.symm hb.symm hc.symm hd.symm hy1 hy2
     ·exact Me g o1 o2 o3 l1 l2 m1 m2 ha.symm hb.symm hc.symm hd.symm p1 p2 q1 q2' d1 d2 ((js nS).resolve_left (fun h=>h d3)) d4
     ·exact Md g o1 o2 o3 l1 l2 m1 m2 ha.symm hb.symm hc.symm hd.symm p1 p2 q1 q2' d1 d2 d3 (fun e=>(js nT).resolve_left (fun h=>h d4) (Rt e))
     ·exact Mc g o1 o2 o3 l1 l2 m1 m2 ha.symm hb.symm hc.symm hd.symm p1 p2 q1 q2' d1 d2 d3 d4
    obtain⟨k1,k2⟩:=key
    rw[k2,k1]
theorem Mf{x1 y1 Z1 x2 y2 Z2:Fin n}:pX (x1*Z1) (y1*Z1) Z1 (x2*Z2) (y2*Z2) Z2=(Z1*Z2)^2*pX x1 y1 1 x2 y2 1∧pY (x1*Z1) (y1*Z1) Z1 (x2*Z2) (y2*Z2) Z2=(Z1*Z2)^2*pY x1 y1 1 x2 y2 1∧pZ (x1*Z1) (y1*Z1) Z1 (x2*Z2) (y2*Z2) Z2=(Z1*Z2)^2*pZ x1 y1 1 x2 y2 1:=by
 unfold pX pY pZ
 refine⟨?_,?_,?_⟩
 · grobner
 · grobner
 · grobner
theorem Mg{x y:Fin n}(g:Good n)(h:On x y):pZ x y 1 x y 1≠0∧pX x y 1 x y 1=sU x y*pZ x y 1 x y 1∧pY x y 1 x y 1=wV x y*pZ x y 1 x y 1:=by
 have Ru:=cH g g.two (ph g h)
 have hu:=g.inv _ Ru
 have hz:pZ x y 1 x y 1=8*y^3:=by unfold On at h;unfold pZ;grobner
 rw[hz]
 refine⟨fun e=>pg g Ru (by grobner),?_,?_⟩
 ·unfold On at h
  unfold pX sU
  generalize finv (2*y)=u at *
  refine eq_of g fun w hw=> ?_
  grobner
 ·unfold On at h
  unfold pY wV sU
  generalize finv (2*y)=u at *
  refine eq_of g fun w hw=> ?_
  grobner
theorem Mh{x y:Fin n}(g:Good n)(h:On x y):pX x y 1 x (-y) 1=0∧pY x y 1 x (-y) 1≠0∧pZ x y 1 x (-y) 1=0:=by
 have Ru:=cH g g.two (ph g h)
 have hu:=g.inv _ Ru
 have hd:=ph g (Gb g h)
 refine⟨by unfold pX;grobner,?_,by unfold pZ;grobner⟩
 intro e
 apply hd
 unfold On at h
 unfold pY at e
 unfold wV sU
 generalize finv (2*y)=u at *
 refine eq_of g fun w hw=> ?_
 grobner
theorem Sn{X1 Y1 Z1 X2 Y2 Z2:Fin n}{P Q:Pt (Fin n)}(g:Good n)(hP:P.on)(hQ:Q.on)(h1:PR X1 Y1 Z1 P)(h2:PR X2 Y2 Z2 Q):
 PR (pX X1 Y1 Z1 X2 Y2 Z2) (pY X1 Y1 Z1 X2 Y2 Z2) (pZ X1 Y1 Z1 X2 Y2 Z2) (eB P Q):=by
 cases P with
 |inf=>
  obtain⟨rfl,hy,rfl⟩:=h1
  rw[fh]
  cases Q with
  |inf=>
   obtain⟨rfl,hy2,rfl⟩:=h2
   have Jc:=cH g (cH g hy hy2) (cH g hy hy2)
   refine⟨by unfold pX;grobner,fun e=>Jc (by unfold pY at e;grobner),by unfold pZ;grobner⟩
  |fq x y=>
   obtain⟨hz,rfl,rfl⟩:=h2
   have Jc:=cH g (cH g hy hy) (cH g (ph g hQ) (cH g hz hz))
   refine⟨fun e=>Jc (by unfold pZ at e;grobner),by unfold pX pZ;grobner,by unfold pY pZ;grobner⟩
 |fq x1 y1=>
  obtain⟨hz1,rfl,rfl⟩:=h1
  cases Q with
  |inf=>
   obtain⟨rfl,hy,rfl⟩:=h2
   have Jc:=cH g (cH g hy hy) (cH g (ph g hP) (cH g hz1 hz1))
   refine⟨fun e=>Jc (by unfold pZ at e;grobner),by unfold pX pZ;grobner,by unfold pY pZ;grobner⟩
  |fq x2 y2=>
   obtain⟨hz2,rfl,rfl⟩:=h2
   obtain⟨e1,e2,e3⟩:=Mf (x1:=x1) (y1:=y1) (Z1:=Z1) (x2:=x2) (y2:=y2) (Z2:=Z2)
   have hzz:=yJ g (cH g hz1 hz2)
   rw[e1,e2,e3]
   simp only[eB]
   split
   · rename_i hx
     subst hx
     split
     · rename_i hy
       subst hy
       obtain⟨a,b,c⟩:=Mg g hP
       rw[b,c]
       exact⟨cH g hzz a,by grobner,by grobner⟩
     · rename_i hy
       have Jc:y2= -y1:=by
        rcases jo g hQ hP with h|h
        ·exact absurd h.symm hy
        ·exact h
       subst Jc
       obtain⟨a,b,c⟩:=Mh g hP
       rw[a,c]
       exact⟨by grobner,cH g hzz b,by grobner⟩
   · rename_i hx
     obtain⟨a,b,c⟩:=Gc g hP hQ hx
     rw[b,c]
     exact⟨cH g hzz a,by grobner,by grobner⟩
theorem CD{a b:Fin n}:a -b=0↔b=a:=⟨fun h=>by grobner,fun h=>by grobner⟩
theorem Pe{X1 Y1 Z1 X2 Y2 Z2 x1 y1 x2 y2:Fin n}(g:Good n)(hr1:JR X1 Y1 Z1 (.fq x1 y1))(hr2:JR X2 Y2 Z2 (.fq x2 y2)):
 (X2*(Z1*Z1) -X1*(Z2*Z2)=0↔x1=x2)∧(Y2*(Z1*(Z1*Z1)) -Y1*(Z2*(Z2*Z2))=0↔y1=y2):=by
 obtain⟨hz1,rfl,rfl⟩:=hr1
 obtain⟨hz2,rfl,rfl⟩:=hr2
 have hz:=cH g (yJ g hz1) (yJ g hz2)
 have hz':=cH g (pg g hz1) (pg g hz2)
 refine⟨⟨fun e=> ?_,fun e=>by subst e;grobner⟩,⟨fun e=> ?_,fun e=>by subst e;grobner⟩⟩
 ·rcases zero_or g (show(x2 -x1)*(Z1^2*Z2^2)=0 by grobner)with h|h
  ·exact CD.1 h
  ·exact absurd h hz
 ·rcases zero_or g (show(y2 -y1)*(Z1^3*Z2^3)=0 by grobner)with h|h
  ·exact CD.1 h
  ·exact absurd h hz'
end
end Go.Proofs.YtlofddoojkeakaaGreatDoor.Cv
set_option linter.unusedSectionVars false
namespace Go.Proofs.YtlofddoojkeakaaGreatDoor.Cv
section
variable {n:Nat} [NeZero n]
theorem DP(a:Fin n)(k:Nat):a^(k+1)=a^k*a:=rfl
def rQ(n:Nat)[NeZero n](x:Nat):Fin n:=Fin.ofNat n x
theorem iA(x:Nat):(rQ n x).val=x%n:=rfl
theorem qi{x y:Nat}:rQ n x=rQ n y↔x%n=y%n:=⟨fun h=>congrArg Fin.val h,fun h=>Fin.ext h⟩
theorem Gd(a:Fin n):rQ n a.val=a:=Fin.ext (Nat.mod_eq_of_lt a.isLt)
theorem Ge(a:Fin n):∃x,a=rQ n x:=⟨a.val,(Gd a).symm⟩
theorem CF(k:Nat):(OfNat.ofNat k:Fin n)=rQ n k:=rfl
theorem sV:(0:Fin n)=rQ n 0:=rfl
theorem JC:(1:Fin n)=rQ n 1:=rfl
theorem CG(x y:Nat):rQ n x+rQ n y=rQ n (x+y):=Fin.ext (by rw[Fin.val_add,iA,iA,iA,←Nat.add_mod])
theorem wW(x y:Nat):rQ n x*rQ n y=rQ n (x*y):=Fin.ext (by rw[Fin.val_mul,iA,iA,iA,←Nat.mul_mod])
theorem rS(x:Nat):∀k,rQ n x^k=rQ n (x^k)
 |0=>rfl
 |k+1=>by rw[DP,rS x k,wW,Nat.pow_succ]
theorem Gf{x:Nat}:rQ n x=0↔n∣x:=by
 rw[sV,qi,Nat.zero_mod]
 exact⟨Nat.dvd_of_mod_eq_zero,Nat.mod_eq_zero_of_dvd⟩
theorem JD(x y:Nat):rQ n x -rQ n y=rQ n (x+(n -y%n)):=Fin.ext (by
 rw[Fin.val_sub,iA,iA,iA,Nat.add_mod (n -y%n),Nat.mod_mod,←Nat.add_mod,Nat.add_comm])
theorem JE(hp:lQ n)(a:Fin n)(ha:a≠0):a*a^(n -2)=1:=by
 obtain⟨x,rfl⟩:=Ge a
 have h2:=hp.1
 rw[rS,wW,JC,qi,Nat.mul_comm,←Nat.pow_succ,show(n -2).succ=n -1 by omega,Bc hp (fun h=>ha (Gf.2 h)),Nat.mod_eq_of_lt (by omega)]
theorem pi(k:Nat)(h0:0<k)(h:k<n):(OfNat.ofNat k:Fin n)≠0:=fun e=>by
 rw[CF,Gf]at e
 exact absurd (Nat.le_of_dvd h0 e) (by omega)
theorem DQ{b e:Nat}(hp:lQ n)(he:n -1=3*e)(hb:rQ n b+7=0)(h7:(7:Fin n)≠0)(hpm:pm n 256 b e≠1)(h256:e<2^256)(x:Fin n):x^3+7≠0:=fun hx3=>by
 have hx:x≠0:=fun h0=>by
  subst h0
  apply h7
  grobner
 have h3:x^3=rQ n b:=by grobner
 obtain⟨y,rfl⟩:=Ge x
 have h2:=hp.1
 have hf:=Bc hp (fun h=>hx (Gf.2 h))
 apply hpm
 rw[pf n 256 b e h256]
 rw[rS,qi]at h3
 rw[Nat.pow_mod,←h3,←Nat.pow_mod,←Nat.pow_mul,←he]
 exact hf
def iq(P:Pt (Fin n)):Nat→Pt (Fin n)
 |0=> .inf
 |k+1=>eB (iq P k) P
theorem wX{P:Pt (Fin n)}(g:Good n)(h:P.on):∀k,(iq P k).on
 |0=>trivial
 |k+1=>jm g (wX g h k) h
theorem mul_add{P:Pt (Fin n)}(g:Good n)(h:P.on)(a:Nat):∀b,iq P (a+b)=eB (iq P a) (iq P b)
 |0=>(gu _).symm
 |b+1=>by
  show eB (iq P (a+b)) P=eB (iq P a) (eB (iq P b) P)
  rw[mul_add g h a b,add_assoc g (wX g h a) (wX g h b) h]
theorem CI:∀k,iq (.inf:Pt (Fin n)) k= .inf
 |0=>rfl
 |k+1=>by show eB (iq .inf k) .inf= .inf;rw[CI k];rfl
theorem CJ{P:Pt (Fin n)}(g:Good n)(h:P.on)(a:Nat):∀b,iq P (a*b)=iq (iq P a) b
 |0=>rfl
 |b+1=>by
  rw[Nat.mul_succ,mul_add g h,CJ g h a b];rfl
theorem mul_one(P:Pt (Fin n)):iq P 1=P:=fh P
def acc(P:Pt (Fin n))(k:Nat):Nat→Pt (Fin n)
 |0=> .inf
 |m+1=>if k/2^(255 -m)%2=1 then eB (eB (acc P k m) (acc P k m)) P else eB (acc P k m) (acc P k m)
theorem wY{P:Pt (Fin n)}(g:Good n)(h:P.on)(k:Nat)(hk:k<2^256):∀m,m≤256→acc P k m=iq P (k/2^(256 -m))
 |0,_=>by rw[Nat.sub_zero,Nat.div_eq_of_lt hk];rfl
 |m+1,hm=>by
  have ih:=wY g h k hk m (by omega)
  have e:k/2^(256 -(m+1))=2*(k/2^(256 -m))+k/2^(255 -m)%2:=by
   rw[show 256 -(m+1)=255 -m by omega,show 256 -m=(255 -m)+1 by omega,Nat.pow_succ,←Nat.div_div_eq_div_mul]
   omega
  rw[acc,ih,e]
  generalize k/2^(256 -m)=q
  have hb:k/2^(255 -m)%2=0∨k/2^(255 -m)%2=1:=by omega
  rcases hb with hb|hb
  ·rw[hb,if_neg (by decide),Nat.two_mul,Nat.add_zero,mul_add g h]
  ·rw[hb,if_pos rfl,Nat.two_mul,mul_add g h,mul_add g h,mul_one]
theorem qj{P:Pt (Fin n)}(g:Good n)(h:P.on)(k:Nat):∀m,(acc P k m).on
 |0=>trivial
 |m+1=>by
  rw[acc]
  split
  ·exact jm g (jm g (qj g h k m) (qj g h k m)) h
  ·exact jm g (qj g h k m) (qj g h k m)
end
def bn:Nat:=115792089237316195423570985008687907853269984665640564039457584007908834671663
instance:NeZero bn:=⟨by decide⟩
theorem gA:Good bn where
 Bd:=pi 1 (by decide) (by decide)
 inv:=fun a ha=>JE KP a ha
 two:=pi 2 (by decide) (by decide)
 three:=pi 3 (by decide) (by decide)
 seven:=pi 7 (by decide) (by decide)
 Ga:=DQ (b:=115792089237316195423570985008687907853269984665640564039457584007908834671656) (e:=38597363079105398474523661669562635951089994888546854679819194669302944890554) KP (by decide+kernel) (by rw[CF,CG,sV,qi];decide+kernel) (pi 7 (by decide) (by decide)) (by decide+kernel) (by decide+kernel)
def fm(a b:Nat):Nat:=a*b%bn
def fa(a b:Nat):Nat:=(a+b)%bn
def fs(a b:Nat):Nat:=(a+(bn -b%bn))%bn
abbrev fp (x:Nat):Fin bn:=rQ bn x
theorem kq:0<bn:=by decide
theorem bI(a b:Nat):fm a b<bn:=Nat.mod_lt _ kq
theorem eb(a b:Nat):fa a b<bn:=Nat.mod_lt _ kq
theorem eZ(a b:Nat):fs a b<bn:=Nat.mod_lt _ kq
theorem wZ(x:Nat):fp (x%bn)=fp x:=qi.2 (Nat.mod_mod _ _)
theorem jt(a b:Nat):fp (fm a b)=fp a*fp b:=by rw[wW];exact wZ _
theorem CK(a b:Nat):fp (fa a b)=fp a+fp b:=by rw[CG];exact wZ _
theorem vo(a b:Nat):fp (fs a b)=fp a -fp b:=by rw[JD];exact wZ _
theorem Be{a:Nat}(ha:a<bn):fp a=0↔a=0:=by
 rw[sV,qi,Nat.mod_eq_of_lt ha];exact Iff.rfl
structure J where
 x:Nat
 y:Nat
 z:Nat
def J.ok (a:J):Prop:=a.x<bn∧a.y<bn∧a.z<bn
def J.jr (a:J)(P:Pt (Fin bn)):Prop:=JR (fp a.x) (fp a.y) (fp a.z) P
def J.pr (a:J)(P:Pt (Fin bn)):Prop:=PR (fp a.x) (fp a.y) (fp a.z) P
def lG(a:J):J:=if a.z=0 then a else
 let yy:=fm a.y a.y;let s0:=fm a.x yy;let s:=fa (fa s0 s0) (fa s0 s0);let xx:=fm a.x a.x;let m:=fa (fa xx xx) xx;let x:=fs (fm m m) (fa s s);let e0:=fm yy yy;let e:=fa (fa e0 e0) (fa e0 e0);let z:=fm a.y a.z
 ⟨x,fs (fm m (fs s x)) (fa e e),fa z z⟩
def gO(a b:J):J:=if a.z=0 then b else if b.z=0 then a else
 let aa:=fm a.z a.z;let bb:=fm b.z b.z;let u:=fm a.x bb;let v:=fm b.x aa;let s:=fm a.y (fm b.z bb);let t:=fm b.y (fm a.z aa);let h:=fs v u;let r:=fs t s
 if h=0 then(if r=0 then lG a else⟨0,0,0⟩)else
 let hh:=fm h h;let hhh:=fm h hh;let q:=fm u hh;let x:=fs (fs (fm r r) hhh) (fa q q)
 ⟨x,fs (fm r (fs q x)) (fm s hhh),fm h (fm a.z b.z)⟩
def cC(k:Nat)(a:J):Nat→J
 |0=>⟨0,0,0⟩
 |m+1=>if k/2^(255 -m)%2=1 then gO (lG (cC k a m)) a else lG (cC k a m)
def fN(a b:J):J:=
 let t0:=fm a.x b.x;let t1:=fm a.y b.y;let t2:=fm a.z b.z
 let t3:=fs (fm (fa a.x a.y) (fa b.x b.y)) (fa t0 t1);let t4:=fs (fm (fa a.y a.z) (fa b.y b.z)) (fa t1 t2);let y:=fs (fm (fa a.x a.z) (fa b.x b.z)) (fa t0 t2)
 let u0:=fa (fa t0 t0) t0;let u2:=fm 21 t2;let z:=fa t1 u2;let u1:=fs t1 u2;let w:=fm 21 y
 ⟨fs (fm t3 u1) (fm t4 w),fa (fm u1 z) (fm w u0),fa (fm z t4) (fm u0 t3)⟩
def cu(k:Nat)(a:J):Nat→J
 |0=>⟨0,1,0⟩
 |m+1=>if k/2^(255 -m)%2=1 then fN (fN (cu k a m) (cu k a m)) a else fN (cu k a m) (cu k a m)
theorem pj{a:J}(h:a.ok):(lG a).ok:=by
 unfold lG
 split
 ·exact h
 ·exact⟨eZ _ _,eZ _ _,eb _ _⟩
theorem w6{a b:J}(h:a.ok)(h':b.ok):(gO a b).ok:=by
 unfold gO
 split
 ·exact h'
 split
 ·exact h
 dsimp only
 split
 · split
   ·exact pj h
   ·exact⟨kq,kq,kq⟩
 ·exact⟨eZ _ _,eZ _ _,bI _ _⟩
theorem dX{a:J}(k:Nat)(h:a.ok):∀m,(cC k a m).ok
 |0=>⟨kq,kq,kq⟩
 |m+1=>by
  rw[cC]
  split
  ·exact w6 (pj (dX k h m)) h
  ·exact pj (dX k h m)
theorem pk(a b:J):(fN a b).ok:=⟨eZ _ _,eb _ _,eb _ _⟩
theorem nh{a:J}(k:Nat):∀m,(cu k a m).ok
 |0=>⟨kq,(by decide:1<bn),kq⟩
 |m+1=>by
  rw[cu]
  split<;>exact pk _ _
theorem xa{a:J}{P:Pt (Fin bn)}(h:a.ok)(hr:a.jr P):a.z=0↔P= .inf:=by
 cases P with
 |inf=>exact⟨fun _=>rfl,fun _=>(Be h.2.2).1 hr⟩
 |fq x y=>exact⟨fun e=>absurd (by rw[e];rfl) hr.1,fun e=>by cases e⟩
theorem Pf{a:J}{P:Pt (Fin bn)}(h:a.ok)(hr:a.pr P):a.z=0↔P= .inf:=by
 cases P with
 |inf=>exact⟨fun _=>rfl,fun _=>(Be h.2.2).1 hr.2.2⟩
 |fq x y=>exact⟨fun e=>absurd (by rw[e];rfl) hr.1,fun e=>by cases e⟩
theorem CL{a:J}{P:Pt (Fin bn)}(h:a.ok)(hP:P.on)(hr:a.jr P):(lG a).jr (eB P P):=by
 unfold lG
 by_cases hz:a.z=0
 ·rw[if_pos hz]
  obtain rfl:=(xa h hr).1 hz
  exact hr
 ·rw[if_neg hz]
  cases P with
  |inf=>exact absurd ((xa h hr).2 rfl) hz
  |fq x y=>
   have hj:=Sl gA hP hr
   simp only[eB,if_pos]
   simp only[J.jr,vo,CK,jt]
   exact hj
theorem CM{a b:J}{P Q:Pt (Fin bn)}(h:a.ok)(h':b.ok)(hP:P.on)(hQ:Q.on)(hr:a.jr P)(hr':b.jr Q):(gO a b).jr (eB P Q):=by
 unfold gO
 by_cases hz:a.z=0
 ·rw[if_pos hz]
  rw[(xa h hr).1 hz,fh]
  exact hr'
 rw[if_neg hz]
 by_cases hz':b.z=0
 ·rw[if_pos hz']
  rw[(xa h' hr').1 hz',gu]
  exact hr
 rw[if_neg hz']
 cases P with
 |inf=>exact absurd ((xa h hr).2 rfl) hz
 |fq x1 y1=>cases Q with
  |inf=>exact absurd ((xa h' hr').2 rfl) hz'
  |fq x2 y2=>
   obtain⟨c1,c2⟩:=Pe gA hr hr'
   have c1':fs (fm b.x (fm a.z a.z)) (fm a.x (fm b.z b.z))=0↔x1=x2:=by
    rw[←Be (eZ _ _)];simp only[vo,jt];exact c1
   have c2':fs (fm b.y (fm a.z (fm a.z a.z))) (fm a.y (fm b.z (fm b.z b.z)))=0↔y1=y2:=by
    rw[←Be (eZ _ _)];simp only[vo,jt];exact c2
   dsimp only
   by_cases hx:x1=x2
   ·rw[if_pos (c1'.2 hx)]
    by_cases hy:y1=y2
    ·rw[if_pos (c2'.2 hy)]
     have hd:=CL h hP hr
     simp only[eB,if_pos]at hd
     simp only[eB,if_pos hx,if_pos hy]
     exact hd
    ·rw[if_neg (fun e=>hy (c2'.1 e))]
     simp only[eB,if_pos hx,if_neg hy]
     rfl
   ·rw[if_neg (fun e=>hx (c1'.1 e))]
    have hj:=Sm gA hr hr' hx
    simp only[eB,if_neg hx]
    simp only[J.jr,vo,CK,jt]
    exact hj
theorem vp{a:J}{P:Pt (Fin bn)}(k:Nat)(h:a.ok)(hP:P.on)(hr:a.jr P):∀m,(cC k a m).jr (acc P k m)
 |0=>rfl
 |m+1=>by
  have ih:=vp k h hP hr m
  have hon:=qj gA hP k m
  have hd:=CL (dX k h m) hon ih
  rw[cC,acc]
  split
  ·exact CM (pj (dX k h m)) h (jm gA hon hon) hP hd hr
  ·exact hd
theorem sW{a b:J}{P Q:Pt (Fin bn)}(hP:P.on)(hQ:Q.on)(hr:a.pr P)(hr':b.pr Q):(fN a b).pr (eB P Q):=by
 have hp:=Sn gA hP hQ hr hr'
 unfold fN J.pr
 simp only[vo,CK,jt]
 exact hp
theorem vq{a:J}{P:Pt (Fin bn)}(k:Nat)(hP:P.on)(hr:a.pr P):∀m,(cu k a m).pr (acc P k m)
 |0=>⟨rfl,by show fp 1≠0;rw[Ne,Be (by decide)];decide,rfl⟩
 |m+1=>by
  have ih:=vq k hP hr m
  have hon:=qj gA hP k m
  have hd:=sW hon hon ih ih
  rw[cu,acc]
  split
  ·exact sW (jm gA hon hon) hP hd hr
  ·exact hd
def NU:Pt (Fin bn)→Nat×Nat
 | .inf=>(0,0)
 | .fq x y=>(x.val,y.val)
def e7(a e:Nat):Nat:=pm bn 256 a e
theorem ni{a e:Nat}(h:e<2^256):e7 a e=a^e%bn:=pf _ _ _ _ h
theorem JF{a e:Nat}(h:e<2^256):fp (e7 a e)=fp a^e:=by rw[ni h,wZ,rS]
def fi(a:Nat):Nat:=e7 a (bn -2)
theorem CN(a:Nat):fp (fi a)=finv (fp a):=JF (e:=bn -2) (by decide)
def gU(a:J):Nat×Nat:=(fm a.x (fm (fi a.z) (fi a.z)),fm a.y (fm (fi a.z) (fm (fi a.z) (fi a.z))))
def kr(a:J):Nat×Nat:=(fm a.x (fi a.z),fm a.y (fi a.z))
theorem xb{a:Nat}(h:a<bn){x:Fin bn}(e:fp a=x):a=x.val:=by rw[←e,iA,Nat.mod_eq_of_lt h]
theorem CO:fi 0=0:=by decide+kernel
theorem yL{a:J}{P:Pt (Fin bn)}(h:a.ok)(hr:a.jr P):gU a=NU P:=by
 cases P with
 |inf=>
  have hz:=(xa h hr).2 rfl
  unfold gU
  rw[hz,CO]
  simp[fm,NU]
 |fq x y=>
  obtain⟨h0,h1,h2⟩:=hr
  have hw:=gA.inv _ h0
  unfold gU NU
  rw[Prod.mk.injEq]
  refine⟨xb (bI _ _) ?_,xb (bI _ _) ?_⟩
  ·rw[jt,jt,CN,h1]
   generalize finv (fp a.z)=w at *
   generalize fp a.z=z at *
   clear h1 h2
   grobner
  ·rw[jt,jt,jt,CN,h2]
   generalize finv (fp a.z)=w at *
   generalize fp a.z=z at *
   clear h1 h2
   grobner
theorem yM{a:J}{P:Pt (Fin bn)}(h:a.ok)(hr:a.pr P):kr a=NU P:=by
 cases P with
 |inf=>
  have hz:=(Pf h hr).2 rfl
  unfold kr
  rw[hz,CO]
  simp[fm,NU]
 |fq x y=>
  obtain⟨h0,h1,h2⟩:=hr
  have hw:=gA.inv _ h0
  unfold kr NU
  rw[Prod.mk.injEq]
  refine⟨xb (bI _ _) ?_,xb (bI _ _) ?_⟩
  ·rw[jt,CN,h1]
   generalize finv (fp a.z)=w at *
   generalize fp a.z=z at *
   clear h1 h2
   grobner
  ·rw[jt,CN,h2]
   generalize finv (fp a.z)=w at *
   generalize fp a.z=z at *
   clear h1 h2
   grobner
end Go.Proofs.YtlofddoojkeakaaGreatDoor.Cv
set_option linter.unusedSectionVars false
namespace Go.Proofs.YtlofddoojkeakaaGreatDoor.Cv
def ld:Nat:=28948022309329048855892746252171976963317496166410141009864396001977208667916
def ig(x:Nat):Nat:=fa (fm (fm x x) x) 7
def iF(x odd:Nat):Option Nat:=
 let y:=e7 (ig x) ld
 if fm y y=ig x then some (if y%2=odd then y else(bn -y)%bn)else none
theorem Mi(x:Nat):fp (ig x)=fp x*fp x*fp x+7:=by
 unfold ig
 rw[CK,jt,jt];rfl
theorem pn(a e:Nat)(h:e<2^256):e7 a e<bn:=by rw[ni h];exact Nat.mod_lt _ kq
theorem q_lt:ld<2^256:=by decide
theorem JG{y:Nat}(h:y<bn):fp ((bn -y)%bn)= -fp y:=by
 have e:fs 0 y=(bn -y)%bn:=by unfold fs;rw[Nat.zero_add,Nat.mod_eq_of_lt h]
 rw[←e,vo]
 have :fp 0=0:=rfl
 rw[this]
 generalize fp y=z
 grobner
theorem yN{x o y:Nat}(h:iF x o=some y):On (fp x) (fp y)∧y<bn:=by
 unfold iF at h
 dsimp only at h
 have hr:=pn (ig x) ld q_lt
 generalize e7 (ig x) ld=r at h hr
 split at h
 · rename_i hs
   have hs2:=congrArg fp hs
   rw[jt,Mi]at hs2
   cases h
   split
   ·refine⟨?_,hr⟩
    unfold On
    clear hs hr
    grobner
   ·refine⟨?_,Nat.mod_lt _ kq⟩
    unfold On
    rw[JG hr]
    clear hs hr
    grobner
 · cases h
def CP:Nat:=55066263022277343669578718895168534326250603453777594175500187360389116729240
def NW:Nat:=32670510020758816978083085130507043184471273380659243275938904335757337482424
def Jd:Nat:=115792089237316195423570985008687907852837564279074904382605163141518161494337
def gJ:J:=⟨CP,NW,1⟩
def gP:Pt (Fin bn):= .fq (fp CP) (fp NW)
theorem sX:iF CP 0=some NW:=by decide+kernel
theorem yO:gP.on:=(yN sX).1
theorem ku:gJ.ok:=⟨(by decide:CP<bn),(by decide:NW<bn),(by decide:1<bn)⟩
theorem xc:fp 1=1:=rfl
theorem Gg{x y:Nat}:(J.mk x y 1).jr (.fq (fp x) (fp y)):=by
 refine⟨?_,?_,?_⟩
 · show fp 1≠0
   rw[Ne,Be (by decide)];decide
 · show fp x=fp x*(fp 1)^2
   rw[xc];generalize fp x=a;grobner
 · show fp y=fp y*(fp 1)^3
   rw[xc];generalize fp y=a;grobner
theorem Gh{x y:Nat}:(J.mk x y 1).pr (.fq (fp x) (fp y)):=by
 refine⟨?_,?_,?_⟩
 · show fp 1≠0
   rw[Ne,Be (by decide)];decide
 · show fp x=fp x*fp 1
   rw[xc];generalize fp x=a;grobner
 · show fp y=fp y*fp 1
   rw[xc];generalize fp y=a;grobner
theorem Gi:gJ.jr gP:=Gg (x:=CP) (y:=NW)
theorem KS:gJ.pr gP:=Gh (x:=CP) (y:=NW)
theorem So:(cC Jd gJ 256).z=0:=by decide+kernel
theorem xd{a:J}{P:Pt (Fin bn)}{k:Nat}(h:a.ok)(hP:P.on)(hr:a.jr P)(hk:k<2^256):(cC k a 256).jr (iq P k):=by
 have h1:=vp k h hP hr 256
 rw[wY gA hP k hk 256 (Nat.le_refl _),Nat.sub_self,Nat.pow_zero,Nat.div_one]at h1
 exact h1
theorem yP{a:J}{P:Pt (Fin bn)}{k:Nat}(hP:P.on)(hr:a.pr P)(hk:k<2^256):(cu k a 256).pr (iq P k):=by
 have h1:=vq k hP hr 256
 rw[wY gA hP k hk 256 (Nat.le_refl _),Nat.sub_self,Nat.pow_zero,Nat.div_one]at h1
 exact h1
theorem Mj{a:J}{P:Pt (Fin bn)}{k:Nat}(h:a.ok)(hP:P.on)(hr:a.jr P)(hk:k<2^256)(hz:(cC k a 256).z=0):iq P k= .inf:=
 (xa (dX k h 256) (xd h hP hr hk)).1 hz
theorem JH:Jd<2^256:=by decide
theorem ng:iq gP Jd= .inf:=Mj ku yO Gi JH So
theorem yQ{k:Nat}(h:iq gP k= .inf)(j:Nat):iq gP (k*j)= .inf:=by
 rw[CJ gA yO,h,CI]
theorem mul_mod(k:Nat):iq gP (k%Jd)=iq gP k:=by
 have e:=Nat.div_add_mod k Jd
 conv=>rhs;rw[←e,mul_add gA yO,yQ ng,fh]
theorem CQ(k:Nat):(iq gP k).on:=wX gA yO k
instance:NeZero Jd:=⟨by decide⟩
abbrev fn (x:Nat):Fin Jd:=rQ Jd x
end Go.Proofs.YtlofddoojkeakaaGreatDoor.Cv
namespace Go.Proofs.YtlofddoojkeakaaGreatDoor
open Go Go.RowKit
theorem aM{k:IntKind}{C:List Int}{n:Nat}(h:C.length=n+1):C.map (Value.int k)≠[]:=by
 intro e
 have :=congrArg List.length e
 rw[aF,h]at this
 cases this
theorem row3{k:IntKind}{n:Nat}{X Y Z:List Int}(hx:X.length=n)(hy:Y.length=n)(hz:Z.length=n){w:World}{g:Nat}(h:Row w g 0 ((X++Y++Z).map (Value.int k))):
 Row w g 0 (X.map (Value.int k))∧Row w g n (Y.map (Value.int k))∧Row w g (n+n) (Z.map (Value.int k)):=by
 have h1:=h.take n
 have h2:=(h.drop n).take n
 have h3:=h.drop (n+n)
 refine⟨?_,?_,?_⟩
 · have e:((X++Y++Z).map (Value.int k)).take n=X.map (Value.int k):=by
    rw[←List.map_take,List.append_assoc,List.take_append_of_le_length (by omega),List.take_of_length_le (by omega)]
   rwa[e]at h1
 · have e:(((X++Y++Z).map (Value.int k)).drop n).take n=Y.map (Value.int k):=by
    rw[←List.map_drop,←List.map_take,List.append_assoc,List.drop_append_of_le_length (by omega),List.drop_eq_nil_of_le (by omega),List.nil_append,List.take_append_of_le_length (by omega),List.take_of_length_le (by omega)]
   rw[e,Nat.zero_add]at h2
   exact h2
 · have e:((X++Y++Z).map (Value.int k)).drop (n+n)=Z.map (Value.int k):=by
    have hl:(X++Y).length=n+n:=by rw[List.length_append,hx,hy]
    rw[←List.map_drop,List.drop_append_of_le_length (by omega),List.drop_eq_nil_of_le (by omega),List.nil_append]
   rw[e,Nat.zero_add]at h3
   exact h3
theorem lf{n:Nat}{X Y Z:List Int}(hx:X.length=n)(hy:Y.length=n)(hz:Z.length=n):(X++Y++Z).length=n+n+n:=by rw[List.length_append,List.length_append,hx,hy,hz]
theorem cI:(Tryz.prog.info? 107).map (·.size)=some 12:=by kernel_rfl
theorem dn:(Tryz.prog.info? 70).map (·.size)=some 24:=by kernel_rfl
theorem list4{L:List Int}(h:L.length=4):∃a b c d,L=[a,b,c,d]:=by
 match L,h with
 |[a,b,c,d],_=>exact⟨a,b,c,d,rfl⟩
theorem nj{X Y Z:List Int}(hx:X.length=4)(hy:Y.length=4)(hz:Z.length=4):
 Tryz.prog.built 107 [(0,.agg (X.map (Value.int .u64)).toArray),(1,.agg (Y.map (Value.int .u64)).toArray),(2,.agg (Z.map (Value.int .u64)).toArray)]=some ((X++Y++Z).map (Value.int .u64)).toArray:=by
 obtain⟨a,b,c,d,rfl⟩:=list4 hx
 obtain⟨a1,b1,c1,d1,rfl⟩:=list4 hy
 obtain⟨a2,b2,c2,d2,rfl⟩:=list4 hz
 kernel_rfl
theorem qk{X Y Z:List Int}(hx:X.length=8)(hy:Y.length=8)(hz:Z.length=8):
 Tryz.prog.built 70 [(0,.agg (X.map (Value.int .u32)).toArray),(1,.agg (Y.map (Value.int .u32)).toArray),(2,.agg (Z.map (Value.int .u32)).toArray)]=some ((X++Y++Z).map (Value.int .u32)).toArray:=by
 obtain⟨a,b,c,d,e,f,g,i,rfl⟩:=Cu hx
 obtain⟨a1,b1,c1,d1,e1,f1,g1,i1,rfl⟩:=Cu hy
 obtain⟨a2,b2,c2,d2,e2,f2,g2,i2,rfl⟩:=Cu hz
 kernel_rfl
def aL:List Value:=[.int .u64 0,.int .u64 0,.int .u64 0,.int .u64 0]
def cD:List Value:=[.int .u32 0,.int .u32 0,.int .u32 0,.int .u32 0,.int .u32 0,.int .u32 0,.int .u32 0,.int .u32 0]
theorem cq{o:Oper}(hg:o.guard=none)(ho:o.op= .alloc 95):fW Tryz.prog o aL:=⟨hg,95,fun a w=>by
 unfold execOp
 simp only[ho]
 go_simp
 exact⟨rfl,rfl⟩⟩
theorem gB{o:Oper}(hg:o.guard=none)(ho:o.op= .alloc 67):fW Tryz.prog o cD:=⟨hg,67,fun a w=>by
 unfold execOp
 simp only[ho]
 go_simp
 exact⟨rfl,rfl⟩⟩
end Go.Proofs.YtlofddoojkeakaaGreatDoor
