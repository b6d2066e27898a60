import Derived.Test.YtiehbnmpaeedpaaGreatQR06
namespace Go.AX
variable [Kap]
variable {cx:Cx}
omit [Kap] in
theorem vGuard_ok {ops:List Oper} {tm tm1:Tr Value} {o:Oper} {run:Tr Value→Bool→Prop} (h:vGuard ops tm o run) (hs:Sub tm tm1) (sz:Nat) (m:Mem) :
  ∃ b tm',wantedA ops ⟨tm1,sz,m⟩ o=some b∧Sub tm' tm1∧run tm' b:=by
 unfold vGuard at h
 split at h
 ·rename_i hg
  exact ⟨true,tm,by simp only [wantedA,hg],hs,h⟩
 ·rename_i j want hg
  split at h
  ·rename_i g hj
   split at h
   ·rename_i d hd
    split at h
    ·rename_i b hb
     have h1:=hs _ _ hb
     rcases splitB_ok h with ⟨rfl,h2⟩ | ⟨rfl,h2⟩
     ·exact ⟨want,_,by simp only [wantedA,hg,hj,hd,h1]; cases want <;> rfl,hs.put_of h1,h2⟩
     ·exact ⟨!want,_,by simp only [wantedA,hg,hj,hd,h1]; cases want <;> rfl,hs.put_of h1,h2⟩
    ·rename_i c hc
     have h1:=hs _ _ hc
     exact ⟨false,tm,by simp only [wantedA,hg,hj,hd,h1],hs,h⟩
    ·exact h.elim
   ·exact h.elim
  ·exact h.elim
omit [Kap] in
theorem appT_mk {T:Type} {d:Mem→T} {tm big:Tr Value} (hb:Sub tm big):∀ {live:Live} {f:Tr Value→Mem→T} {tm0:Tr Value} {m:Mem},Sub tm0 big →
  appT live (mkJ live tm0 f) tm d m=d m∨∃ tm',Sub tm' big∧appT live (mkJ live tm0 f) tm d m=f tm' m:=by
 intro live
 induction live with
 | nil=>intro f tm0 m hs; exact .inr ⟨tm0,hs,rfl⟩
 | cons x r ih=>
  intro f tm0 m hs
  obtain ⟨i,l⟩:=x
  cases l with
  | any=>
   cases hg:tm.get i with
   | none=>exact .inl (by simp only [appT,hg])
   | some v=>
    have:=ih (f:=f) (tm0:=tm0.put i v) (m:=m) (hs.put_of (hb _ _ hg))
    simpa only [appT,hg,mkJ] using this
  | int k=>
   cases hg:tm.get i with
   | none=>exact .inl (by simp only [appT,hg])
   | some v=>
    cases v with
    | int k' x=>
     by_cases hk:k=k'
     ·subst hk
      have:=ih (f:=f) (tm0:=tm0.put i (.int k x)) (m:=m) (hs.put_of (hb _ _ hg))
      simpa only [appT,hg,mkJ,decide_true] using this
     ·exact .inl (by simp only [appT,hg,decide_eq_false hk])
    | _=>exact .inl (by simp only [appT,hg])
  | sl=>
   cases hg:tm.get i with
   | none=>exact .inl (by simp only [appT,hg])
   | some v=>
    cases v with
    | slice a n c=>
     have:=ih (f:=f) (tm0:=tm0.put i (.slice a n c)) (m:=m) (hs.put_of (hb _ _ hg))
     simpa only [appT,hg,mkJ] using this
    | _=>exact .inl (by simp only [appT,hg])
  | bool=>
   cases hg:tm.get i with
   | none=>exact .inl (by simp only [appT,hg])
   | some v=>
    cases v with
    | bool x=>
     have:=ih (f:=f) (tm0:=tm0.put i (.bool x)) (m:=m) (hs.put_of (hb _ _ hg))
     simpa only [appT,hg,mkJ] using this
    | _=>exact .inl (by simp only [appT,hg])
  | str=>
   cases hg:tm.get i with
   | none=>exact .inl (by simp only [appT,hg])
   | some v=>
    cases v with
    | string x=>
     have:=ih (f:=f) (tm0:=tm0.put i (.string x)) (m:=m) (hs.put_of (hb _ _ hg))
     simpa only [appT,hg,mkJ] using this
    | _=>exact .inl (by simp only [appT,hg])
  | ptr=>
   cases hg:tm.get i with
   | none=>exact .inl (by simp only [appT,hg])
   | some v=>
    cases v with
    | pointer x=>
     have:=ih (f:=f) (tm0:=tm0.put i (.pointer x)) (m:=m) (hs.put_of (hb _ _ hg))
     simpa only [appT,hg,mkJ] using this
    | _=>exact .inl (by simp only [appT,hg])
  | map=>
   cases hg:tm.get i with
   | none=>exact .inl (by simp only [appT,hg])
   | some v=>
    cases v with
    | map x=>
     have:=ih (f:=f) (tm0:=tm0.put i (.map x)) (m:=m) (hs.put_of (hb _ _ hg))
     simpa only [appT,hg,mkJ] using this
    | _=>exact .inl (by simp only [appT,hg])
omit [Kap] in
theorem appT_al {T:Type} {d:T} {tm big:Tr Value} (hb:Sub tm big):∀ {live:Live} {J:Cur live T} {tm0:Tr Value} {F:T→Tr Value→Prop},alL live J tm0 F→Sub tm0 big →
  appT live J tm d=d∨∃ I tm',Sub tm' big∧appT live J tm d=I∧F I tm':=by
 intro live
 induction live with
 | nil=>intro J tm0 F h hs; exact .inr ⟨J,tm0,hs,rfl,h⟩
 | cons x r ih=>
  intro J tm0 F h hs
  obtain ⟨i,l⟩:=x
  cases l with
  | any=>
   cases hg:tm.get i with
   | none=>exact .inl (by simp only [appT,hg])
   | some v=>
    have:=ih (h v) (hs.put_of (hb _ _ hg))
    simpa only [appT,hg] using this
  | int k=>
   cases hg:tm.get i with
   | none=>exact .inl (by simp only [appT,hg])
   | some v=>
    cases v with
    | int k' x=>
     by_cases hk:k=k'
     ·subst hk
      have:=ih (h x) (hs.put_of (hb _ _ hg))
      simpa only [appT,hg,decide_true] using this
     ·exact .inl (by simp only [appT,hg,decide_eq_false hk])
    | _=>exact .inl (by simp only [appT,hg])
  | sl=>
   cases hg:tm.get i with
   | none=>exact .inl (by simp only [appT,hg])
   | some v=>
    cases v with
    | slice a n c=>
     have:=ih (h a n c) (hs.put_of (hb _ _ hg))
     simpa only [appT,hg] using this
    | _=>exact .inl (by simp only [appT,hg])
  | bool=>
   cases hg:tm.get i with
   | none=>exact .inl (by simp only [appT,hg])
   | some v=>
    cases v with
    | bool x=>
     have:=ih (h x) (hs.put_of (hb _ _ hg))
     simpa only [appT,hg] using this
    | _=>exact .inl (by simp only [appT,hg])
  | str=>
   cases hg:tm.get i with
   | none=>exact .inl (by simp only [appT,hg])
   | some v=>
    cases v with
    | string x=>
     have:=ih (h x) (hs.put_of (hb _ _ hg))
     simpa only [appT,hg] using this
    | _=>exact .inl (by simp only [appT,hg])
  | ptr=>
   cases hg:tm.get i with
   | none=>exact .inl (by simp only [appT,hg])
   | some v=>
    cases v with
    | pointer x=>
     have:=ih (h x) (hs.put_of (hb _ _ hg))
     simpa only [appT,hg] using this
    | _=>exact .inl (by simp only [appT,hg])
  | map=>
   cases hg:tm.get i with
   | none=>exact .inl (by simp only [appT,hg])
   | some v=>
    cases v with
    | map x=>
     have:=ih (h x) (hs.put_of (hb _ _ hg))
     simpa only [appT,hg] using this
    | _=>exact .inl (by simp only [appT,hg])
omit [Kap] in
theorem exec_one (n:Nat) (c:Code) (st:St):exec cx (n+1) c st=step cx (exec cx n) c st:=rfl
omit [Kap] in
theorem memN_false {l:List Nat} {i:Nat} (h:memN l i=false):∀ x∈l,x≠i:=by
 induction l with
 | nil=>intro x hx; cases hx
 | cons a r ih=>
  simp only [memN] at h
  split at h
  ·cases h
  ·rename_i hb
   intro x hx
   rcases List.mem_cons.1 hx with rfl | hx
   ·exact Tr.beq_false.1 hb
   ·exact ih h x hx
omit [Kap] in
theorem apartN_ok {keep ws:List Nat} (h:apartN keep ws=true):∀ i∈keep,∀ x∈ws,x≠i:=by
 induction keep with
 | nil=>intro i hi; cases hi
 | cons a r ih=>
  simp only [apartN] at h
  split at h
  ·cases h
  ·rename_i hm
   intro i hi
   rcases List.mem_cons.1 hi with rfl | hi
   ·exact memN_false hm
   ·exact ih h i hi
omit [Kap] in
theorem keepT_get {tm:Tr Value}:∀ {keep:List Nat} {i:Nat} {v:Value},(keepT tm keep).get i=some v→i∈keep∧tm.get i=some v
 | [],i,v,h=>by simp only [keepT] at h; rw [Tr.get_nil] at h; cases h
 | j :: r,i,v,h=>by
  simp only [keepT] at h
  split at h
  ·rename_i x hx
   rw [Tr.get_put] at h
   split at h
   ·rename_i e; subst e; cases h; exact ⟨List.mem_cons_self ..,hx⟩
   ·obtain ⟨h1,h2⟩:=keepT_get h; exact ⟨List.mem_cons_of_mem _ h1,h2⟩
  ·obtain ⟨h1,h2⟩:=keepT_get h; exact ⟨List.mem_cons_of_mem _ h1,h2⟩
omit [Kap] in
theorem putT_keeps {st st':St} {dst:Option Tmp} {v:Option Value} {m:Mem} (h:putT st dst v m=some st') {i:Nat} (hi:dst≠some i):st'.tm.get i=st.tm.get i:=by
 unfold putT at h
 split at h
 ·cases h; rfl
 ·rename_i d
  split at h
  ·split at h
   ·cases h; show (st.tm.put d _).get i=_; rw [Tr.get_put,if_neg (fun e=>hi (by rw [e]))]
   ·cases h; show (st.tm.del d).get i=_; rw [Tr.get_del,if_neg (fun e=>hi (by rw [e]))]
  ·cases h
omit [Kap] in
theorem runOps_keeps {call:Caller} {ops:List Oper} {i:Nat}:∀ {rest:List Oper} {st st':St},(∀ o∈rest,o.dst≠some i)→runOps cx call ops rest st=some st'→st'.tm.get i=st.tm.get i
 | [],st,st',_,h=>by cases h; rfl
 | o :: r,st,st',hr,h=>by
  unfold runOps at h
  split at h
  ·split at h
   ·split at h
    ·rename_i hp
     rw [runOps_keeps (fun o ho=>hr o (List.mem_cons_of_mem _ ho)) h,putT_keeps hp (hr o (List.mem_cons_self ..))]
    ·cases h
   ·cases h
  ·split at h
   ·rename_i hp
    rw [runOps_keeps (fun o ho=>hr o (List.mem_cons_of_mem _ ho)) h,putT_keeps hp (hr o (List.mem_cons_self ..))]
   ·cases h
  ·cases h
omit [Kap] in
theorem runDraw_keeps {call:Caller} {ops:List Oper} {base i:Nat}:∀ {rest:List Oper} {ss:List Nat} {k:Nat} {d:Dr} {st st':St},(∀ o∈rest,o.dst≠some i)→runDraw cx call ops base rest ss k d st=some st'→st'.tm.get i=st.tm.get i
 | [],ss,k,d,st,st',_,h=>by unfold runDraw at h; cases h; rfl
 | o :: r,[],k,d,st,st',_,h=>by unfold runDraw at h; cases h
 | o :: r,s :: q,k,d,st,st',hr,h=>by
  unfold runDraw at h
  split at h
  ·split at h
   ·split at h
    ·rename_i hp
     rw [runDraw_keeps (fun o ho=>hr o (List.mem_cons_of_mem _ ho)) h,putT_keeps hp (hr o (List.mem_cons_self ..))]
    ·cases h
   ·cases h
  ·split at h
   ·rename_i hp
    rw [runDraw_keeps (fun o ho=>hr o (List.mem_cons_of_mem _ ho)) h,putT_keeps hp (hr o (List.mem_cons_self ..))]
   ·cases h
  ·cases h
omit [Kap] in
theorem exec_keeps {i:Nat}:∀ {n:Nat} {c:Code} {st:St} {ex:Ex} {st':St},(∀ x∈writesC c,x≠i)→exec cx n c st=some (ex,st')→st'.tm.get i=st.tm.get i:=by
 intro n
 induction n with
 | zero=>intro c st ex st' _ h; cases h
 | succ n ih=>
  intro c st ex st' hw h
  rw [exec_one] at h
  cases c with
  | skip=>cases h; rfl
  | label l=>cases h; rfl
  | exit id=>cases h; rfl
  | ret=>cases h; rfl
  | region id ops draw=>
   have hd:∀ o∈ops.toList,o.dst≠some i:=fun o ho e=>hw i (List.mem_filterMap.2 ⟨o,ho,e⟩) rfl
   cases draw with
   | false=>
    simp only [step] at h
    split at h
    ·rename_i h1; cases h; exact runOps_keeps hd h1
    ·cases h
   | true=>
    simp only [step] at h
    split at h
    ·split at h
     ·rename_i h1; cases h; exact (runDraw_keeps hd h1).trans rfl
     ·cases h
    ·cases h
  | seq x y=>
   have hx:∀ a∈writesC x,a≠i:=fun a ha=>hw a (List.mem_append.2 (.inl ha))
   have hy:∀ a∈writesC y,a≠i:=fun a ha=>hw a (List.mem_append.2 (.inr ha))
   simp only [step] at h
   split at h
   ·rename_i h1; rw [ih hy h,ih hx h1]
   ·exact ih hx h
  | cond o x y=>
   have hx:∀ a∈writesC x,a≠i:=fun a ha=>hw a (List.mem_append.2 (.inl ha))
   have hy:∀ a∈writesC y,a≠i:=fun a ha=>hw a (List.mem_append.2 (.inr ha))
   simp only [step] at h
   split at h
   ·exact ih hx h
   ·exact ih hy h
   ·cases h
  | block id x=>
   simp only [step] at h
   split at h
   ·rename_i h1
    split at h
    ·cases h; exact ih (c:=x) hw h1
    ·cases h; exact ih (c:=x) hw h1
   ·exact ih (c:=x) hw h
  | loop x=>
   simp only [step] at h
   split at h
   ·rename_i h1; rw [ih (c:=.loop x) hw h,ih (c:=x) hw h1]
   ·exact ih (c:=x) hw h
  | rangeFunc _ _ _ _=>simp [step] at h
  | goto _=>simp [step] at h
  | scope _=>simp [step] at h
  | refuse _=>simp [step] at h
omit [Kap] in
theorem keepT_sub {tm big st:Tr Value} {keep:List Nat} (hs:Sub tm big) (hk:∀ i∈keep,st.get i=big.get i):Sub (keepT tm keep) st:=by
 intro i v h
 obtain ⟨h1,h2⟩:=keepT_get h
 rw [hk i h1]
 exact hs i v h2
end Go.AX
