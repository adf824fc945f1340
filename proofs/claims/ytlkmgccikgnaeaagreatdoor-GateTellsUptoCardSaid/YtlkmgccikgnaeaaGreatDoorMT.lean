/-
  Texts of the proof, one behind the other: GtE GtF GtG.
  No condition but those that each theorem names.
-/
import Derived.Test.YtlkmgccikgnaeaaGreatDoorMO
import Derived.Test.YtlkmgccikgnaeaaGreatDoorMC
import Derived.Test.YtlkmgccikgnaeaaGreatDoorMQ
import Derived.Test.YtlkmgccikgnaeaaGreatDoorMR
set_option linter.unusedVariables false
set_option linter.unusedSimpArgs false
set_option maxRecDepth 100000
set_option maxHeartbeats 16000000
namespace Go.Proofs.YtlkmgccikgnaeaaGreatDoor.Ab
open Go Go.RowKit
theorem Zz {l:List AX} {i:Nat} (h:i < l.length):(l.map Cm).getD i []=Cm (l.getD i At):=by
 simp[List.getD_eq_getElem?_getD,h]
theorem SS (l m:List AX) (hl:l.length≤16777216) (fl:∀a∈l,a.Fits) (fm:∀a∈m,a.Fits):A8 Tryz.prog D 50 [.sl 5 (l.map Cm),.sl 5 (m.map Cm)] ⟨.bool (decide (l=m)),[]⟩:=by
 have hok:Cl Tryz.prog D (Ao [Jl]):=Ar _
 have g1:=fun (a b:AX) (h1:a.Fits) (h2:b.Fits)=> Ag (T:=[Jl]) (E:=Jl) (i:=0) rfl (by decide) ((a,b)) (⟨h1,h2⟩)
 generalize Ao [Jl]=G at *
 dsimp only[Jl] at g1
 have hcon:∀r,r=decide (l=m)→A8 Tryz.prog D 50 [.sl 5 (l.map Cm),.sl 5 (m.map Cm)] ⟨.bool r,[]⟩:=by
  intro r hr
  refine Bx (G:=G) (rs:=[(4,none)]) hok Tryz.func50 Tryz.results50 Tryz.ntmps50 (fun _=> {}) fun X hP hD hG' hX=> ?_
  simp only[AU,Bz]
  by_cases hlm:l.length=m.length
  case neg=>
   have d:(((l.length:Nat):Int) !=((m.length:Nat):Int))=true:=by simp;omega
   have hr:r=false:=by rw[hr];exact decide_eq_false fun h=> hlm (by rw[h])
   subst hr
   simp (disch:=omega) only[go_sem,hD,hG',d,Aa]
   (repeat (with_reducible refine aI ?_))
   refine Aj [] [] (by simp) rfl rfl rfl ?_ ?_ <;> simp only[go_sem]
  have d:(((l.length:Nat):Int) !=((m.length:Nat):Int))=false:=by simp[hlm]
  simp (disch:=omega) only[go_sem,hD,hG',d,Aa]
  refine Tr.loop (ι:=Nat) (fun i=> i≤l.length∧l.take i=m.take i) (fun i=> {nt:=27,tm:=[(0,.sl 5 (l.map Cm)),(1,.sl 5 (m.map Cm)),(12,.int .i64 l.length),(13,.int .i64 i)],bl:=[]}) (fun i=> l.length - i) 0
   ⟨⟨Nat.zero_le _,by simp⟩,AG hD [] rfl rfl (by simp only[go_sem];try simp) (by simp only[go_sem])⟩ ?_
  rintro i ⟨hi,hit⟩
  refine Al hX (fun _=> {}) _ _ _ ?_
  simp (disch:=omega) only[go_sem,hD,hG',Aa]
  refine Ai (fun h=> ?_) (fun h=> ?_)
  ·rw[decide_eq_true_eq] at h
   have hi1:i < l.length:=by omega
   have hi2:i < m.length:=by omega
   have h1:=Zz hi1
   have h2:=Zz hi2
   have gg:=g1 (l.getD i At) (m.getD i At) (fl _ (Dr hi1)) (fm _ (Dr hi2))
   have ht:l.take (i+1)=l.take i++[l.getD i At]:=by
    rw[List.take_succ_eq_append_getElem hi1]
    simp[hi1]
   have ht2:m.take (i+1)=m.take i++[m.getD i At]:=by
    rw[List.take_succ_eq_append_getElem hi2]
    simp[hi2]
   have hne:¬l.getD i At=m.getD i At→r=false:=fun hn=> by
    rw[hr]
    exact decide_eq_false fun h=> hn (by rw[h])
   generalize l.getD i At=a at *
   generalize m.getD i At=c at *
   by_cases hac:a=c
   ·subst hac
    rw[decide_eq_true rfl] at gg
    obtain ⟨k,q,n,⟨ps,bs⟩⟩:=a
    simp only[Cm,askA] at h1 h2 gg
    simp (disch:=omega) only[go_sem,hD,hG',h1,h2,gg,Aa]
    (repeat (with_reducible refine aI ?_))
    refine ⟨i+1,⟨⟨by omega,by rw[ht,ht2,hit]⟩,by omega⟩,AG hD [] rfl rfl ?_ ?_⟩ <;> simp only[go_sem]
    all_goals (try simp)
   ·rw[decide_eq_false hac] at gg
    have hr:=hne hac
    subst hr
    obtain ⟨k,q,n,⟨ps,bs⟩⟩:=a
    obtain ⟨k',q',n',⟨ps',bs'⟩⟩:=c
    simp only[Cm,askA] at h1 h2 gg
    simp (disch:=omega) only[go_sem,hD,hG',h1,h2,gg,Aa]
    (repeat (with_reducible refine aI ?_))
    refine Aj [] [] (by simp) rfl rfl rfl ?_ ?_ <;> simp only[go_sem]
  ·rw[decide_eq_false_iff_not] at h
   have hie:i=l.length:=by omega
   subst hie
   rw[List.take_length,hlm,List.take_length] at hit
   have hr:r=true:=by rw[hr];exact decide_eq_true hit
   subst hr
   simp (disch:=omega) only[go_sem,hD,hG',Aa]
   (repeat (with_reducible refine aI ?_))
   refine Aj [] [] (by simp) rfl rfl rfl ?_ ?_ <;> simp only[go_sem]
 exact hcon _ rfl
def B7:BH Tryz.prog D:=⟨50,List AX×List AX,fun x=> [.sl 5 (x.1.map Cm),.sl 5 (x.2.map Cm)],fun x=> x.1.length≤16777216∧(∀a∈x.1,a.Fits)∧∀a∈x.2,a.Fits,fun x=> ⟨.bool (decide (x.1=x.2)),[]⟩,fun x y _ _ h=> by
 obtain ⟨a,b⟩:=x
 obtain ⟨a',b'⟩:=y
 have hinj:∀(u v:List AX),u.map Cm=v.map Cm→u=v:=fun u v h=> List.map_inj_right (fun p q h=> Cv (by rw[Xm,Xm,h])) |>.1 h
 simp only[List.cons.injEq,AV.sl.injEq,true_and,and_true] at h
 rw[hinj _ _ h.1,hinj _ _ h.2],fun x h=> SS x.1 x.2 h.1 h.2.1 h.2.2⟩
theorem RH {T:Wd→AX×Int×Int} (hT:∀b,(T b).2.2=0→Ap (T b).1=0):∀(f:Nat) (most:Int) (b:Wd),(∀a∈(DN T f most b).1,Ap a=0)∧(DN T f most b).1.length≤f∧(DN T f most b).2.1.length≤b.length
 | 0,_,b=> ⟨fun a h=> (by cases h),Nat.le_refl _,Nat.le_refl _⟩
 | f+1,most,b=> by
  rw[DN]
  split
  ·exact ⟨fun a h=> (by cases h),Nat.zero_le _,Nat.le_refl _⟩
  ·split
   ·exact ⟨fun a h=> (by cases h),Nat.zero_le _,Nat.le_refl _⟩
   ·split
    ·exact ⟨fun a h=> (by cases h),Nat.zero_le _,Nat.le_refl _⟩
    ·rename_i h3
     obtain ⟨i1,i2,i3⟩:=RH hT f (most - 1) (b.drop (T b).2.1.toNat)
     rw[List.length_drop] at i3
     refine ⟨fun a ha=> ?_,?_,?_⟩
     ·rcases List.mem_cons.1 ha with rfl | ha
      ·exact hT b (by simpa using h3)
      ·exact i1 a ha
     ·simp only[List.length_cons];omega
     ·simp only;omega
theorem Wz (n:Int) (b:Wd) (most:Int):(∀a∈(C4 n b most).1,a.Fits)∧(C4 n b most).1.length≤b.length+1∧(C4 n b most).2.1.length≤b.length:=by
 unfold C4
 split
 ·obtain ⟨h1,h2,h3⟩:=RH (T:=Fl n) (fun b h=> by
   rcases KH n b with hr | hr
   ·exact hr.2.1
   ·exact absurd h hr.1) (b.length+1) most b
  exact ⟨fun a ha=> ZA (h1 a ha),h2,h3⟩
 ·exact ⟨fun a h=> (by cases h),Nat.zero_le _,Nat.zero_le _⟩
end Go.Proofs.YtlkmgccikgnaeaaGreatDoor.Ab
