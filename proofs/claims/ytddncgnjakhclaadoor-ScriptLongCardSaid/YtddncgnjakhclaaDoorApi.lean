/- Labels, nodes, queues, tasks, operations, acts, answers, machines, jobs, states as plain data. No conditions. -/
import Derived.Test.YtddncgnjakhclaaDoorAm26
set_option linter.unusedVariables false
set_option linter.unusedSimpArgs false
namespace Go.Am
open Go
abbrev Lb := ByteArray × ByteArray
def lb (x : Lb) : AV := .agg [.str x.1, .str x.2]
@[simp] theorem lb_bel (n : Nat) (x : Lb) : Bel n (lb x) ↔ True := by simp [lb]
@[simp] theorem lb_flat (x : Lb) : Flat (lb x) ↔ True := by simp [lb]
abbrev lbs (l : List Lb) : AV := .lst 2 (l.map lb) none
@[simp high] theorem bel_lstM {α : Type} (n sz : Nat) (f : α → AV) (l : List α) (c : Option Nat) : Bel n (.lst sz (l.map f) c) ↔ ∀ a ∈ l, Bel 0 (f a) := by
  rw [bel_lst]
  constructor
  · intro h a ha; exact h _ (List.mem_map_of_mem ha)
  · intro h r hr
    obtain ⟨a, ha, rfl⟩ := List.mem_map.1 hr
    exact h a ha
abbrev i64 (n : Int) : AV := .int .i64 n
structure Rs where
  a : Int
  b : Int
  c : Int
  deriving DecidableEq
abbrev Rs.cells (r : Rs) : List AV := [i64 r.a, i64 r.b, i64 r.c]
abbrev rsA (r : Rs) : AV := .agg [i64 r.a, i64 r.b, i64 r.c]
abbrev Rs.zero : Rs := ⟨0, 0, 0⟩
structure Nd where
  name : ByteArray
  cap : Rs
  labels : List Lb
abbrev Nd.cells (n : Nd) : List AV := [.str n.name, i64 n.cap.a, i64 n.cap.b, i64 n.cap.c, lbs n.labels]
abbrev nodeA (n : Nd) : AV := .agg [.str n.name, i64 n.cap.a, i64 n.cap.b, i64 n.cap.c, lbs n.labels]
structure Qu where
  name : ByteArray
  quota : Rs
abbrev quA (q : Qu) : AV := .agg [.str q.name, i64 q.quota.a, i64 q.quota.b, i64 q.quota.c]
structure Tk where
  name : ByteArray
  queue : ByteArray
  prio : Int
  need : Rs
  wants : List Lb
  apart : ByteArray
  gang : ByteArray
  size : Int
abbrev tkA (t : Tk) : AV := .agg [.str t.name, .str t.queue, i64 t.prio, i64 t.need.a, i64 t.need.b, i64 t.need.c, lbs t.wants, .str t.apart, .str t.gang, i64 t.size]
structure Op' where
  kind : Int
  node : Nd
  queue : Qu
  task : Tk
  name : ByteArray
abbrev opC (o : Op') : List AV := [i64 o.kind, .str o.node.name, i64 o.node.cap.a, i64 o.node.cap.b, i64 o.node.cap.c, lbs o.node.labels, .str o.queue.name, i64 o.queue.quota.a, i64 o.queue.quota.b, i64 o.queue.quota.c,
  .str o.task.name, .str o.task.queue, i64 o.task.prio, i64 o.task.need.a, i64 o.task.need.b, i64 o.task.need.c, lbs o.task.wants, .str o.task.apart, .str o.task.gang, i64 o.task.size, .str o.name]
abbrev opA (o : Op') : AV := .agg (opC o)
structure Ac where
  kind : Int
  task : ByteArray
  node : ByteArray
def acA (a : Ac) : AV := .agg [i64 a.kind, .str a.task, .str a.node]
@[simp] theorem acA_bel (n : Nat) (x : Ac) : Bel n (acA x) ↔ True := by simp [acA]
@[simp] theorem acA_flat (x : Ac) : Flat (acA x) ↔ True := by simp [acA]
abbrev acs (l : List Ac) : AV := .lst 3 (l.map acA) none
structure An where
  err : Int
  acts : List Ac
abbrev anA (a : An) : AV := .agg [i64 a.err, acs a.acts]
structure Mc where
  node : Nd
  up : Bool
  til : Int
def mcA (m : Mc) : AV := .agg [.str m.node.name, i64 m.node.cap.a, i64 m.node.cap.b, i64 m.node.cap.c, lbs m.node.labels, .bool m.up, i64 m.til]
@[simp] theorem mcA_bel (n : Nat) (x : Mc) : Bel n (mcA x) ↔ True := by simp [mcA]
structure Jb where
  task : Tk
  seq : Int
  node : ByteArray
  bound : Int
def jbA (j : Jb) : AV := .agg [.str j.task.name, .str j.task.queue, i64 j.task.prio, i64 j.task.need.a, i64 j.task.need.b, i64 j.task.need.c, lbs j.task.wants, .str j.task.apart, .str j.task.gang, i64 j.task.size, i64 j.seq, .str j.node, i64 j.bound]
@[simp] theorem jbA_bel (n : Nat) (x : Jb) : Bel n (jbA x) ↔ True := by simp [jbA]
def quR (q : Qu) : AV := quA q
@[simp] theorem quR_bel (n : Nat) (x : Qu) : Bel n (quR x) ↔ True := by simp [quR]
@[simp] theorem quR_flat (x : Qu) : Flat (quR x) ↔ True := by simp [quR]
structure St where
  clock : Int
  next : Int
  machines : List Mc
  queues : List Qu
  jobs : List Jb
abbrev stA (s : St) : AV := .agg [i64 s.clock, i64 s.next, .lst 7 (s.machines.map mcA) none, .lst 4 (s.queues.map quR) none, .lst 13 (s.jobs.map jbA) none]
end Go.Am
