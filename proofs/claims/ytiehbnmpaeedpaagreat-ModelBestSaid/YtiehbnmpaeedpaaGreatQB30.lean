import Derived.Test.YtiehbnmpaeedpaaGreatQB29
namespace Go.AX.pm
set_option linter.unusedSimpArgs false
set_option linter.unusedVariables false
set_option linter.unusedSectionVars false
open Go.AX
theorem best_ready {B:Int} {σ : St} (h:Iv B σ) {x y:Serv} (hx:x∈σ.servs) (hm:x.s.mode=1) (hout:x.id∉runners σ) (hy:y∈σ.servs) (hym:y.s.mode=1) (hr:y.id∈runners σ) :
  x.sec=0∧(y.sec=0→¬ (x.s.due < y.s.due∨(x.s.due=y.s.due∧x.id < y.id))):=by
 have g:=ents_good h
 have mem:∀ {z:Serv},z∈σ.servs→z.s.mode=1→z.ent∈ents σ:=fun hz hm=>List.mem_map.2 ⟨_,List.mem_filter.2 ⟨hz,eqI_true.2 hm⟩,rfl⟩
 have hX:=mem hx hm
 have hY:=mem hy hym
 have hYr:y.ent∈pl.run σ.m (ents σ):=(pl.mem_pick_id g hY).1 hr
 have hXn:x.ent∉pl.run σ.m (ents σ):=fun e=>hout ((pl.mem_pick_id g hX).2 e)
 have hs:x.sec=0:=by
  rcases hb:neI x.sec 0 with _ | _
  ·exact neI_false.1 hb
  ·exact absurd (pl.fixed_runs g hX hb) hXn
 refine ⟨hs,fun hys hlt=>?_⟩
 have:=(pl.best g hYr hX hXn (show neI y.sec 0=false from neI_false.2 hys)).2.2
 rw [pl.less_iff.2 hlt] at this
 cases this
theorem runners_count {B:Int} {σ : St} (h:Iv B σ):((runners σ).length:Int)=min σ.m ((ready σ.servs).length:Int):=by
 have:=pl.pick_length (ents_good h)
 unfold ents at this
 rw [List.length_map] at this
 have h1:=h.m1
 unfold runners
 omega
noncomputable def step (s:St) (a:Act):St:=
 bif eqI a.op 0 then (add s a.who a.q a.p).1 else
 bif eqI a.op 2 then (release s a.who a.steps).1 else tickN (min a.n.toNat 40) s
theorem step_iv {B:Int} {σ : St} (h:Iv B σ) (hB:0≤B) (hB2:B < 4611686018427387904) (a:Act):Iv (B+1) (step σ a)∧(step σ a).m = σ.m:=by
 unfold step
 cases eqI a.op 0 with
 | true=>
  obtain ⟨x,y,z,_⟩:=add_iv h hB a.who a.q a.p
  exact ⟨x.mono (by omega),y⟩
 | false=>
 cases eqI a.op 2 with
 | true=>
  obtain ⟨x,y,z,_⟩:=release_iv h hB2 a.who a.steps
  exact ⟨x,y⟩
 | false=>
  obtain ⟨x,y,_⟩:=tickN_iv h (min a.n.toNat 40)
  exact ⟨x.mono (by omega),y⟩
end Go.AX.pm
